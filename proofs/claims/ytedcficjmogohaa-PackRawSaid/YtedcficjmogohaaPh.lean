/- Texts of one proof, merged: XMd XMe XMf XMg XO0 XO1 XO2 XO3 XRf. -/
import Derived.Test.YtedcficjmogohaaPg
import Derived.OwnWalk
import Derived.Below
import Derived.RangeFuncNested
import Derived.RangeFuncBound
import Derived.RangeFuncCalls
import Derived.RangeFuncBox
import Derived.RangeFuncLeaves
import Derived.WalkKit
import Derived.OwnWalkIn
import Derived.TacticsInMore
import Derived.LoopNIn
import Derived.LoopIn
/- take of pack's model undoes put: plain. -/
namespace Go.Proofs.Ytedcficjmogohaa
set_option linter.unusedVariables false
set_option linter.unusedSimpArgs false
set_option maxRecDepth 100000

theorem bit_pt {s : WS} {m : MS} {rT : RW} {room b : Int} (hr : 0 ≤ room) (hm : m.ok) (g : s.gd (room + 1)) (hp : Pt (rOf (bitM s m b)) rT) : Pt (rOf s) rT := by
  have hk := chOk_get hm.ckinds m.kind
  have hb := bitBound_in g.live hk
  have h := putS_gd b hr g hb.1 hb.2
  unfold bitM at hp
  unfold kindN at hp
  rw [h.2] at hp
  exact pt_back b g.good hb.1 hb.2 hp
theorem bit_dec {s : WS} {m : MS} {q : RS} {rT : RW} {room roomT b : Int} (hr : 0 ≤ room) (gT : rT.ok roomT) (hm : m.ok) (hb01 : b = 0 ∨ b = 1) (g : s.gd (room + 1)) (hp : Pt (rOf (bitM s m b)) rT) (hd : Dec (rOf s) q (rend rT)) :
    tkBit q m = b ∧ Dec (rOf (bitM s m b)) (tkS q m) (rend rT) := by
  have hk := chOk_get hm.ckinds m.kind
  have hb := bitBound_in g.live hk
  have h := putS_gd b hr g hb.1 hb.2
  have hw : rBound q (kindN m) = bitBound s (m.kinds.getD m.kind 0) := by unfold rBound bitBound kindN; rw [hd.width]; rfl
  unfold tkBit tkS bitM
  rw [hw]
  unfold bitM at hp
  unfold kindN at hp ⊢
  rw [h.2] at hp ⊢
  exact dec_step g.good gT hb.1 hb.2 hb01 hp hd
theorem lit_pt {s : WS} {m : MS} {rT : RW} {room : Int} (lit : UInt8) (hr : 0 ≤ room) (hm : m.ok) (g : s.gd (room + 9)) (hp : Pt (rOf (putLit s m lit).1) rT) : Pt (rOf s) rT := by
  have h1 := bitM_gd (s := s) 0 (room := room + 8) (by omega) hm (g.less (by omega))
  exact bit_pt (b := 0) (room := room + 8) (by omega) hm (g.less (by omega)) (tree_pt _ _ _ _ room hr (hm.clits _) (h1.1.less (by rw [bitsOf_len']; omega)) hp)
theorem lit_dec {s : WS} {m : MS} {q : RS} {rT : RW} {room roomT : Int} (lit : UInt8) (hr : 0 ≤ room) (gT : rT.ok roomT) (hm : m.ok) (g : s.gd (room + 9)) (hp : Pt (rOf (putLit s m lit).1) rT) (hd : Dec (rOf s) q (rend rT)) :
    ∃ q', takeM q m = (⟨lit, 0, 0⟩, q', (putLit s m lit).2) ∧ Dec (rOf (putLit s m lit).1) q' (rend rT) := by
  have h1 := bitM_gd (s := s) 0 (room := room + 8) (by omega) hm (g.less (by omega))
  have h2 : Pt (rOf (bitM s m 0)) rT := tree_pt _ _ _ _ room hr (hm.clits _) (h1.1.less (by rw [bitsOf_len']; omega)) hp
  have hb := bit_dec (b := 0) (room := room + 8) (by omega) gT hm (.inl rfl) (g.less (by omega)) h2 hd
  have ht := tree_dec gT (bitsOf lit.toNat 8) (bitM s m 0) (tkS q m) (m.lits (treeIx m.out)) 1 room hr (bitsOf_bits _ _) (hm.clits _) (h1.1.less (by rw [bitsOf_len']; omega)) hp hb.2
  rw [bitsOf_len'] at ht
  have hv := val_bitsOf (lit.toNat : Int) 8 1
  have hlt := lit.toNat_lt
  have hval : val 1 (bitsOf lit.toNat 8) - 256 = lit.toNat := by omega
  refine ⟨(rLit q m).2.1, ?_, ht.2.2⟩
  unfold takeM
  rw [if_pos hb.1]
  unfold takeLit putLit
  rw [hb.1]
  have e1 : (rLit q m).1 - 256 = lit.toNat := by unfold rLit; rw [ht.1]; exact hval
  have e2 : (rLit q m).2.2 = (treeS (bitM s m 0) (m.lits (treeIx m.out)) 1 (bitsOf lit.toNat 8)).2 := ht.2.1
  rw [e1, e2, UInt8.ofNat_toNat]
theorem lenN_pow (n : Nat) (h : n ≠ 0) : 1 ≤ lenN n ∧ 2 ^ (lenN n - 1) ≤ n ∧ n < 2 * 2 ^ (lenN n - 1) := by
  unfold lenN
  rw [if_neg h]
  refine ⟨by omega, ?_, ?_⟩
  · rw [Nat.add_sub_cancel]; exact Nat.log2_self_le h
  · rw [Nat.add_sub_cancel]
    have : n < 2 ^ (Nat.log2 n + 1) := Nat.lt_log2_self
    rw [Nat.pow_succ] at this
    omega
theorem match_pt {s : WS} {m : MS} {rT : RW} {room : Int} (n bk : Nat) (hbk : 1 ≤ bk ∧ bk ≤ 32768) (hr : 0 ≤ room) (hm : m.ok) (g : s.gd (room + 28)) (hp : Pt (rOf (putMatch s m n bk).1) rT) :
    Pt (rOf (backM s m n bk).1) rT ∧ Pt (rOf (lenM s m n).1) rT ∧ Pt (rOf (bitM s m 1)) rT ∧ Pt (rOf s) rT := by
  have hl := lenN_15 (bk - 1) (by omega)
  have b1 := backM_ok (s := s) n bk (room := room + 15) (by omega) hm (g.less (by omega))
  have l1 := lenM_ok (s := s) n (room := room + 19) (by omega) hm (g.less (by omega))
  have h1 := bitM_gd (s := s) 1 (room := room + 27) (by omega) hm (g.less (by omega))
  have p1 : Pt (rOf (backM s m n bk).1) rT := even_pt _ _ room hr (b1.1.less (by rw [bitsOf_len']; omega)) hp
  have p2 : Pt (rOf (lenM s m n).1) rT := tree_pt _ _ _ _ (room + 15) (by omega) hm.cbacks (l1.1.less (by rw [bitsOf_len']; omega)) p1
  have p3 : Pt (rOf (bitM s m 1)) rT := tree_pt _ _ _ _ (room + 19) (by omega) hm.clens (h1.1.less (by rw [bitsOf_len']; omega)) p2
  exact ⟨p1, p2, p3, bit_pt (b := 1) (room := room + 27) (by omega) hm (g.less (by omega)) p3⟩
theorem match_dec {s : WS} {m : MS} {q : RS} {rT : RW} {room roomT : Int} (n bk : Nat) (hn : 3 ≤ n ∧ n ≤ 258) (hbk : 1 ≤ bk ∧ bk ≤ 32768) (hr : 0 ≤ room) (gT : rT.ok roomT) (hm : m.ok) (g : s.gd (room + 28)) (hp : Pt (rOf (putMatch s m n bk).1) rT) (hd : Dec (rOf s) q (rend rT)) :
    ∃ q', takeM q m = (⟨0, n, bk⟩, q', (putMatch s m n bk).2) ∧ Dec (rOf (putMatch s m n bk).1) q' (rend rT) := by
  obtain ⟨p1, p2, p3, p4⟩ := match_pt n bk hbk hr hm g hp
  have hl := lenN_15 (bk - 1) (by omega)
  have b1 := backM_ok (s := s) n bk (room := room + 15) (by omega) hm (g.less (by omega))
  have l1 := lenM_ok (s := s) n (room := room + 19) (by omega) hm (g.less (by omega))
  have h1 := bitM_gd (s := s) 1 (room := room + 27) (by omega) hm (g.less (by omega))
  have d1 := bit_dec (b := 1) (room := room + 27) (by omega) gT hm (.inr rfl) (g.less (by omega)) p3 hd
  have d2 := tree_dec gT (bitsOf ((n : Int) - 3) 8) (bitM s m 1) (tkS q m) m.lens 1 (room + 19) (by omega) (bitsOf_bits _ _) hm.clens (h1.1.less (by rw [bitsOf_len']; omega)) p2 d1.2
  rw [bitsOf_len'] at d2
  have e1 : (rLen q m).1 - 256 = n - 3 := by
    have hv := val_bitsOf ((n : Int) - 3) 8 1
    unfold rLen
    rw [d2.1]
    omega
  have e2 : (rLen q m).2.2 = (lenM s m n).2 := d2.2.1
  have d3 := tree_dec gT (bitsOf (lenN (bk - 1)) 4) (lenM s m n).1 (rLen q m).2.1 m.backs 1 (room + 15) (by omega) (bitsOf_bits _ _) hm.cbacks (l1.1.less (by rw [bitsOf_len']; omega)) p1 d2.2.2
  rw [bitsOf_len'] at d3
  have e3 : rN q m = lenN (bk - 1) := by
    have hv := val_bitsOf (lenN (bk - 1) : Int) 4 1
    unfold rN rBack
    rw [d3.1]
    omega
  have e4 : (rBack q m).2.2 = (backM s m n bk).2 := d3.2.1
  have d4 := even_dec gT (bitsOf ((bk : Int) - 1) (lenN (bk - 1) - 1)) (backM s m n bk).1 (rBack q m).2.1 0 room hr (bitsOf_bits _ _) (b1.1.less (by rw [bitsOf_len']; omega)) hp d3.2.2
  rw [bitsOf_len'] at d4
  have e5 : rLow q m = if lenN (bk - 1) = 0 then (0, (rBack q m).2.1) else rEven (lenN (bk - 1) - 1) (rBack q m).2.1 0 := by unfold rLow; rw [e3]
  refine ⟨(rLow q m).2, ?_, ?_⟩
  · unfold takeM
    rw [if_neg (by rw [d1.1]; decide)]
    unfold takeMatch putMatch
    rw [d1.1, e1, e2, e3, e4]
    have hlen : 3 + ((n - 3 : Nat) : Int) = (n : Int) := by omega
    have hback : (if lenN (bk - 1) = 0 then (1 : Int) else 1 + ((2 ^ (lenN (bk - 1) - 1) + (rLow q m).1 : Nat) : Int)) = (bk : Int) := by
      by_cases hz : bk - 1 = 0
      · have : lenN (bk - 1) = 0 := by rw [hz]; rfl
        rw [if_pos this]
        omega
      · obtain ⟨k1, k2, k3⟩ := lenN_pow (bk - 1) hz
        rw [if_neg (by omega), e5, if_neg (by omega), d4.1]
        have hv := val_bitsOf ((bk : Int) - 1) (lenN (bk - 1) - 1) 0
        have hpw : ((2 : Int) ^ (lenN (bk - 1) - 1)) = ((2 ^ (lenN (bk - 1) - 1) : Nat) : Int) := by simp
        rw [hpw] at hv
        generalize 2 ^ (lenN (bk - 1) - 1) = P at *
        have hmod : ((bk : Int) - 1) % (P : Int) = (bk : Int) - 1 - P := by
          have h1 : (bk - 1) % P = bk - 1 - P := by rw [Nat.mod_eq_sub_mod k2, Nat.mod_eq_of_lt (by omega)]
          rw [show (bk : Int) - 1 = ((bk - 1 : Nat) : Int) by omega, ← Int.natCast_emod, h1]
          omega
        rw [hmod] at hv
        omega
    rw [hlen, hback]
  · rw [e5]
    by_cases hz : lenN (bk - 1) = 0
    · rw [if_pos hz]
      show Dec (rOf (evenS _ (bitsOf _ (lenN (bk - 1) - 1)))) _ _
      rw [hz]
      exact d3.2.2
    · rw [if_neg hz]
      exact d4.2
theorem put_pt {s : WS} {m : MS} {rT : RW} {room : Int} {t : Tk} (ht : rightP t) (hr : 0 ≤ room) (hm : m.ok) (g : s.gd (room + 28)) (hp : Pt (rOf (putT s m t).1) rT) : Pt (rOf s) rT := by
  unfold putT at hp
  rcases ht with ⟨h1, h2⟩ | ⟨h1, h2, h3, h4, h5⟩
  · rw [if_pos h1] at hp
    exact lit_pt t.lit hr hm (g.less (by omega)) hp
  · rw [if_neg (by omega)] at hp
    exact (match_pt _ _ (by omega) hr hm g hp).2.2.2
theorem put_dec {s : WS} {m : MS} {q : RS} {rT : RW} {room roomT : Int} {t : Tk} (ht : rightP t) (hr : 0 ≤ room) (gT : rT.ok roomT) (hm : m.ok) (g : s.gd (room + 28)) (hp : Pt (rOf (putT s m t).1) rT) (hd : Dec (rOf s) q (rend rT)) :
    ∃ q', takeM q m = (t, q', (putT s m t).2) ∧ Dec (rOf (putT s m t).1) q' (rend rT) := by
  obtain ⟨lit, len, back⟩ := t
  unfold putT at hp ⊢
  rcases ht with ⟨h1, h2⟩ | ⟨h1, h2, h3, h4, h5⟩
  · simp only at h1 h2
    subst h1; subst h2
    rw [if_pos rfl] at hp ⊢
    exact lit_dec lit hr gT hm (g.less (by omega)) hp hd
  · simp only at h1 h2 h3 h4 h5
    subst h5
    obtain ⟨n, rfl⟩ : ∃ n : Nat, len = (n : Int) := ⟨len.toNat, by omega⟩
    obtain ⟨bk, rfl⟩ : ∃ n : Nat, back = (n : Int) := ⟨back.toNat, by omega⟩
    rw [if_neg (by simp only; omega)] at hp ⊢
    exact match_dec n bk (by omega) (by omega) hr gT hm g hp hd
end Go.Proofs.Ytedcficjmogohaa

/- What read of package pack reads, and that it reads what was written: plain. -/
namespace Go.Proofs.Ytedcficjmogohaa
set_option linter.unusedVariables false
set_option linter.unusedSimpArgs false
set_option maxRecDepth 100000

def rdN (n : Nat) : Nat → RS → MS → List Tk → Option (List Tk × RS × MS)
  | 0, _, _, _ => none
  | k + 1, q, m, acc =>
    if m.out.length < n then
      if fitsP (takeM q m).2.2.out (takeM q m).1 n then rdN n k (takeM q m).2.1 (sawM (takeM q m).2.2 (takeM q m).1) (acc ++ [(takeM q m).1]) else none
    else some (acc, q, m)
theorem fitsP_more {out : List UInt8} {t : Tk} {n n' : Int} (h : fitsP out t n) (hn : n ≤ n') : fitsP out t n' := ⟨h.1, h.2.1, by have := h.2.2; omega⟩
theorem maxT_ge (t : Tk) : 1 ≤ maxT t := by unfold maxT; split <;> omega
theorem putT_out (s : WS) (m : MS) (t : Tk) : (putT s m t).2.out = m.out := by unfold putT; split <;> rfl
theorem wr_pt {rT : RW} : ∀ (l : List Tk) (x : WS × MS) (room : Int), 0 ≤ room → x.2.ok → x.1.gd (room + 28 * (l.length : Int)) → Pt (rOf (l.foldl wrT x).1) rT → Pt (rOf x.1) rT
  | [], x, room, _, _, _, h => h
  | t :: l, x, room, hr, hm, g, h => by
    have g1 : x.1.gd (room + 28 * (l.length : Int) + 28) := g.less (by rw [List.length_cons]; omega)
    have hk := wrT_ok (t := t) (x := x) (room := room + 28 * (l.length : Int)) (by omega) g1 hm
    have ih := wr_pt l (wrT x t) room hr hk.2 hk.1 h
    unfold wrT at ih
    split at ih
    · rename_i hf
      exact put_pt hf.1 (room := room + 28 * (l.length : Int)) (by omega) hm g1 ih
    · exact ih
theorem rd_wr {rT : RW} {roomT : Int} (gT : rT.ok roomT) (n : Nat) (hn : n ≤ 65536) (b : List UInt8) (hb : b.length = n) : ∀ (l : List Tk) (s : WS) (m : MS) (q : RS) (acc : List Tk) (room : Int) (k : Nat), 0 ≤ room → m.ok → s.gd (room + 28 * (l.length : Int)) → expT n l m.out = some b →
    Pt (rOf (l.foldl wrT (s, m)).1) rT → Dec (rOf s) q (rend rT) → l.length < k → ∃ q' m', rdN n k q m acc = some (acc ++ l, q', m') ∧ m'.out = b ∧ Dec (rOf (l.foldl wrT (s, m)).1) q' (rend rT)
  | [], s, m, q, acc, room, k, hr, hm, g, he, hp, hd, hk => by
    obtain ⟨j, rfl⟩ : ∃ j, k = j + 1 := ⟨k - 1, by simp at hk; omega⟩
    injection he with he
    refine ⟨q, m, ?_, he, hd⟩
    rw [rdN, if_neg (by rw [he, hb]; omega), List.append_nil]
  | t :: l, s, m, q, acc, room, k, hr, hm, g, he, hp, hd, hk => by
    obtain ⟨j, rfl⟩ : ∃ j, k = j + 1 := ⟨k - 1, by omega⟩
    rw [expT] at he
    by_cases hf : fitsP m.out t n
    · rw [if_pos hf] at he
      have hf6 : fitsP m.out t 65536 := fitsP_more hf (by omega)
      have hw : wrT (s, m) t = ((putT s m t).1, sawM (putT s m t).2 t) := by unfold wrT; rw [if_pos hf6]
      have g1 : s.gd (room + 28 * (l.length : Int) + 28) := g.less (by rw [List.length_cons]; omega)
      have hk2 := putT_ok (t := t) hf.1 (room := room + 28 * (l.length : Int)) (by omega) hm g1
      rw [List.foldl_cons, hw] at hp
      have hp1 : Pt (rOf (putT s m t).1) rT := wr_pt l ((putT s m t).1, sawM (putT s m t).2 t) room hr (sawM_ok hk2.2.1 t) hk2.1 hp
      obtain ⟨q1, e1, d1⟩ := put_dec (room := room + 28 * (l.length : Int)) hf.1 (by omega) gT hm g1 hp1 hd
      have he2 : expT n l (sawM (putT s m t).2 t).out = some b := by
        show expT n l (sawT (putT s m t).2.out t) = some b
        rw [putT_out]
        exact he
      obtain ⟨q', m', h1, h2, h3⟩ := rd_wr gT n hn b hb l (putT s m t).1 (sawM (putT s m t).2 t) q1 (acc ++ [t]) room j hr (sawM_ok hk2.2.1 t) hk2.1 he2 hp d1 (by rw [List.length_cons] at hk; omega)
      refine ⟨q', m', ?_, h2, ?_⟩
      · have hlt : m.out.length < n := by have := hf.2.2; have := maxT_ge t; omega
        rw [rdN, if_pos hlt, e1]
        simp only
        rw [if_pos (by rw [putT_out]; exact hf), h1, List.append_assoc]
        rfl
      · rw [List.foldl_cons, hw]
        exact h3
    · rw [if_neg hf] at he
      cases he
end Go.Proofs.Ytedcficjmogohaa

/- read of what Write told: plain. -/
namespace Go.Proofs.Ytedcficjmogohaa
set_option linter.unusedVariables false
set_option linter.unusedSimpArgs false
set_option maxRecDepth 100000

/-- What read answers: tokens, bytes, an error's number. -/
def readN (x : List Int) (n : Int) : List Tk × List UInt8 × Int :=
  if n < 0 ∨ 65536 < n then ([], [], 1)
  else match rdN n.toNat (n.toNat + 1) (openS x) ms0 [] with
    | none => ([], [], 4)
    | some (l, q, m) => if q.e = 0 then if q.rem = [] then (l, m.out, 0) else ([], [], 5) else ([], [], q.e)
theorem read_write (l : List Tk) (b : List UInt8) (hb : b.length ≤ 65536) (he : expT b.length l [] = some b) : readN (writeN l) b.length = (l, b, 0) := by
  have hlen := (expT_len (n := (b.length : Int)) l [] b (by simp) he).2
  have hl : l.length ≤ b.length := by simpa using hlen
  have g0 : begin0.gd (1000 + 28 * (l.length : Int)) := begin0_gd _ (by omega) (by omega)
  have hg := wrN_gd l 1000 (by omega) (by omega)
  have gT := hg.1.good.ok
  have hw : (writeN l) = rend (rOf (wrN l).1) := end_rel hg.1.live (by omega) hg.1.calm (rel_rOf _)
  have hpos : 0 < (rOf (wrN l).1).width := by have := hg.1.live.wide; show 0 < (wrN l).1.width; omega
  have hd : Dec (rOf begin0) (openS (rend (rOf (wrN l).1))) (rend (rOf (wrN l).1)) := open_dec gT
  obtain ⟨q', m', h1, h2, h3⟩ := rd_wr gT b.length hb b rfl l begin0 ms0 (openS (rend (rOf (wrN l).1))) [] 1000 (b.length + 1) (by omega) ms0_ok g0 he (Pt.self hpos) hd (by omega)
  unfold readN
  rw [if_neg (by omega), hw, Int.toNat_natCast, h1]
  simp only [List.nil_append]
  rw [if_pos h3.e, if_pos (dec_end h3), h2]
end Go.Proofs.Ytedcficjmogohaa

/- take of pack's model, whatever comes; the walk over read. -/
namespace Go.Proofs.Ytedcficjmogohaa
set_option linter.unusedVariables false
set_option linter.unusedSimpArgs false
set_option maxRecDepth 100000
open Go.RowKit

theorem takem_any (p q : Nat) (a : MA) (v : Value) (m : MS) (hm : m.ok) (hl : m.out.length ≤ 70000) (s : RS) (hs : s.live) (B : Nat) (R : HP) [Loc B R] (w : World) (hB : B ≤ w.heap.size) (hO : Own B (Re q s * (MdV p a v m * R)) w) :
    Calls Try.prog 51 #[.pointer (some ⟨p, 0, none⟩), .pointer (some ⟨q, 0, none⟩)] w (Ret B w (.agg (tkL (takeM s m).1).toArray) (Re q (takeM s m).2.1 * (MdV p a v (takeM s m).2.2 * R))) := by
  unfold takeM
  rcases takeBit_01 s (rBound s (kindN m)) with h | h
  · rw [if_pos (show tkBit s m = 0 from h)]
    exact take_lit p q a v m hm hl s hs h B R w hB hO
  · rw [if_neg (by rw [show tkBit s m = 1 from h]; decide)]
    exact take_match p q a v m hm s hs h B R w hB hO

def RetRd (w : World) (r : List Tk × List UInt8 × Int) (e : Ending) (w' : World) : Prop :=
  ∃ A1 c1 A2 c2, e = .returned (.tuple #[.slice A1 r.1.length c1, .slice A2 r.2.1.length c2, .int .i64 r.2.2]) ∧ RdA 3 tkL w' A1 r.1 ∧ Rd w' (.slice A2 r.2.1.length c2) (bytesU r.2.1) ∧ (r.1.length ≤ c1 ∧ c1 ≤ 9223372036854775807) ∧ (r.2.1.length ≤ c2 ∧ c2 ≤ 9223372036854775807) ∧ Below w.heap.size w w'
theorem RetRd.err {w w' : World} {z : Int} {e : Ending} (he : e = .returned (.tuple #[.slice none 0 0, .slice none 0 0, .int .i64 z])) (hb : Below w.heap.size w w') : RetRd w ([], [], z) e w' :=
  ⟨none, 0, none, 0, he, RdA.nil, Rd.nil _, by simp, by simp, hb⟩

set_option maxHeartbeats 6400000 in
theorem read_any (x : List Int) (vx : Value) (hx : bytesOk x) (hl : x.length ≤ 1099511627776) (n : Int) (hn1 : -9223372036854775808 ≤ n) (hn2 : n ≤ 9223372036854775807) (w : World) (hr : Rd w vx (bytesV x)) :
    Calls Try.prog 26 #[vx, .int .i64 n] w (RetRd w (readN x n)) := by
  have hO := Own.start w.heap.size w
  have HD : Hid (readN x n = if n < 0 ∨ 65536 < n then ([], [], 1) else match rdN n.toNat (n.toNat + 1) (openS x) ms0 [] with
    | none => ([], [], 4)
    | some (l, q, m) => if q.e = 0 then if q.rem = [] then (l, m.out, 0) else ([], [], 5) else ([], [], q.e)) := Lib.hid rfl
  have hb := Below.refl w.heap.size w
  by_cases hlow : n < 0
  · have hres : readN x n = ([], [], 1) := by rw [HD.out, if_pos (.inl hlow)]
    rw [hres]
    clear HD hr hx hl hres
    go_enter Try.func26, Try.ntmps26
    go_wp2
    go_ret3
    exact RetRd.err rfl hb
  · by_cases hhigh : 65536 < n
    · have hres : readN x n = ([], [], 1) := by rw [HD.out, if_pos (.inr hhigh)]
      rw [hres]
      clear HD hr hx hl hres
      go_enter Try.func26, Try.ntmps26
      go_wp2
      go_ret3
      exact RetRd.err rfl hb
    · obtain ⟨k, rfl⟩ : ∃ k : Nat, n = (k : Int) := ⟨n.toNat, by omega⟩
      have HO := Lib.hid (open_any vx x hx w.heap.size Emp w (Nat.le_refl _) hr hl hO)
      have k0 : (0 : Int) ≤ (k : Int) := by omega
      have k1 : (k : Int) ≤ 65536 := by omega
      clear hr
      go_enter Try.func26, Try.ntmps26
      go_wp2_with fail
      refine HO.out.mono ?_
      rintro e w1 ⟨q, rfl, o1, b1⟩
      have hb1 := hb.trans b1
      clear HO hb b1
      go_wp2_with fail
      refine (mbegin_any w.heap.size _ w1 hb1.size o1).mono ?_
      rintro e w2 ⟨p, a, rfl, o2, b2⟩
      have hb2 := hb1.trans b2
      clear o1 b2 hb1 hO
      go_wp2
      go_loopg [9] (k + 1) (fun kk v9 wr => ∃ (acc : List Tk) (s : RS) (m : MS) (v0 : Value), v0 = v9 ∧ s.live ∧ m.ok ∧ m.out.length ≤ k ∧ k < kk + m.out.length ∧ acc.length ≤ m.out.length ∧ Hid (rdN k (k + 1) (openS x) ms0 [] = rdN k kk s m acc) ∧ Below w.heap.size w wr ∧ Own w.heap.size (Md p a m * (Re q s * (Rw 39 3 v0 acc.length (flat tkL acc) * Emp))) wr)
      case atStart => exact ⟨[], openS x, ms0, _, rfl, openS_live hx, ms0_ok, by simp [ms0], by simp [ms0], by simp, Lib.hid rfl, hb2, (o2.rw_nil 39 3).cast (by ac_rfl)⟩
      case round =>
        clear o2 hb2
        obtain ⟨acc, s, m, v9, rfl, hs, hm, ho1, ho2, ha, he, hb, ho⟩ := hrel
        obtain ⟨v, ho⟩ := ho.hex
        have Bw := hb.size
        have c12 : wr.cell? ⟨p, 12, none⟩ = some v := (ho.cast mdv_eq).cellOf p 12
        obtain ⟨A, c, rfl⟩ := ((ho.cast mdv_eq).foc (Rw 5 1 v m.out.length (bytesU m.out))).row_n
        by_cases hlt : (m.out.length : Int) < (k : Int)
        · obtain ⟨j, rfl⟩ : ∃ j, gk = j + 1 := ⟨gk - 1, by omega⟩
          have hok := takeM_ok hs hm
          have he1 := he.out
          rw [rdN.eq_2 k s m acc j, if_pos (by omega)] at he1
          have HT := Lib.hid (takem_any p q a (.slice A m.out.length c) m hm (by omega) s hs w.heap.size (Rw 39 3 v9 acc.length (flat tkL acc) * Emp) wr Bw (ho.cast (by ac_rfl)))
          have hol : m.out.length ≤ k := ho1
          have ho2' := Lib.hid ho2
          generalize takeM s m = y at *
          obtain ⟨t, s', m'⟩ := y
          simp only at HT hok he1 ho1 ha hol
          have He1 := Lib.hid he1
          clear he he1 ho
          go_wp2_with fail
          refine HT.out.mono ?_
          rintro e w4 ⟨rfl, o4, b4⟩
          have hb4 := hb.trans b4
          have B4 := hb4.size
          obtain ⟨hs', hm', hmo⟩ := hok
          have o5 := o4.new B4 39 #[.int .u8 (t.lit.toNat : Int), .int .i64 t.len, .int .i64 t.back]
          have b5 := hb4.alloc B4 (.cells #[.int .u8 (t.lit.toNat : Int), .int .i64 t.len, .int .i64 t.back] 39)
          have HF := Lib.hid (fun w1 X B1 (h : Own w.heap.size (Bk X 39 #[.int .u8 (t.lit.toNat : Int), .int .i64 t.len, .int .i64 t.back] * (Re q s' * (MdV p a (.slice A m.out.length c) m' * (Rw 39 3 v9 acc.length (flat tkL acc) * Emp)))) w1) =>
            fits_any p a (.slice A m.out.length c) m' (by rw [hmo]; omega) t k (by omega) (by omega) w.heap.size (Bk X 39 #[.int .u8 (t.lit.toNat : Int), .int .i64 t.len, .int .i64 t.back] * (Re q s' * (Rw 39 3 v9 acc.length (flat tkL acc) * Emp))) w1 B1 (h.cast (by ac_rfl)))
          have H5 := Lib.hid (HF.out _ _ b5.size o5)
          simp only [tkL] at H5
          simp only [tkL]
          clear HF HT o4 b4 o5 c12
          go_wp2_with fail
          refine H5.out.mono ?_
          rintro e w6 ⟨rfl, o6, b6⟩
          have hb6 := b5.trans b6
          have B6 := hb6.size
          by_cases hf : fitsP m'.out t k
          · have hft : fitsT m'.out t k = true := decide_eq_true hf
            rw [hft]
            have he7 := He1.out
            rw [if_pos hf] at he7
            have He7 := Lib.hid he7
            obtain ⟨g2, cap2, w7, hrun, o7, b7⟩ := tok_snoc B6 (o6.cast (show _ = Rw 39 3 v9 acc.length (flat tkL acc) * (Bk w4.heap.size 39 #[.int .u8 (t.lit.toNat : Int), .int .i64 t.len, .int .i64 t.back] * (Re q s' * (MdV p a (.slice A m.out.length c) m' * Emp))) by ac_rfl)) t (by omega)
            have x0 : w6.cell? ⟨w4.heap.size, 0, none⟩ = some (.int .u8 (t.lit.toNat : Int)) := o6.drop.cellOf w4.heap.size 0
            have x1 : w6.cell? ⟨w4.heap.size, 1, none⟩ = some (.int .i64 t.len) := o6.drop.cellOf w4.heap.size 1
            have x2 : w6.cell? ⟨w4.heap.size, 2, none⟩ = some (.int .i64 t.back) := o6.drop.cellOf w4.heap.size 2
            have hb7 := hb6.trans b7
            have B7 := hb7.size
            have y0 : w7.cell? ⟨w4.heap.size, 0, none⟩ = some (.int .u8 (t.lit.toNat : Int)) := o7.cellOf w4.heap.size 0
            have y1 : w7.cell? ⟨w4.heap.size, 1, none⟩ = some (.int .i64 t.len) := o7.cellOf w4.heap.size 1
            have y2 : w7.cell? ⟨w4.heap.size, 2, none⟩ = some (.int .i64 t.back) := o7.cellOf w4.heap.size 2
            simp only [tkL] at hrun
            have Hrun := Lib.hid hrun
            have HS := Lib.hid (sawm_any p a (.slice A m.out.length c) m' t k (by omega) hf w.heap.size _ w7 B7 (o7.cast (show _ = MdV p a (.slice A m.out.length c) m' * (Bk w4.heap.size 39 #[.int .u8 (t.lit.toNat : Int), .int .i64 t.len, .int .i64 t.back] * (Re q s' * (Rw 39 3 (.slice (some ⟨g2, 0, none⟩) (acc ++ [t]).length cap2) (acc ++ [t]).length (flat tkL (acc ++ [t])) * Emp))) by ac_rfl)))
            have hsl := sawT_len m'.out t hf.1
            have hmx := maxT_ge t
            have hso : (sawM m' t).out = sawT m'.out t := rfl
            have hfn := hf.2.2
            have F : Hid ((sawM m' t).out.length ≤ k ∧ k < j + (sawM m' t).out.length ∧ (acc ++ [t]).length ≤ (sawM m' t).out.length) := Lib.hid (by rw [hso, List.length_append]; simp only [List.length_singleton]; rw [hmo] at hsl hfn; rw [hmo]; have := ho2'.out; omega)
            have OkM := Lib.hid (sawM_ok hm' t)
            simp only [tkL] at HS
            clear hrun o6 o7 hf hft hsl hmx hso hfn He1 he7 H5
            generalize acc ++ [t] = acc2 at *
            go_wp2_with (at_builtin; refine wpList_append_run rfl (.tmp 35) (.tmp 37) 33 rfl rfl rfl Hrun.out ?_)
            refine HS.out.mono ?_
            rintro e w8 ⟨rfl, o8, b8⟩
            have hb8 := hb7.trans b8
            have O9 := Lib.hid (Own.drop (o8.cast (show _ = Bk w4.heap.size 39 #[.int .u8 (t.lit.toNat : Int), .int .i64 t.len, .int .i64 t.back] * (Md p a (sawM m' t) * (Re q s' * (Rw 39 3 (.slice (some ⟨g2, 0, none⟩) acc2.length cap2) acc2.length (flat tkL acc2) * Emp))) by ac_rfl)))
            clear o8 b8
            go_wp2
            go_roundg j
            case measure => omega
            case rel => exact ⟨acc2, s', sawM m' t, _, rfl, hs', OkM.out, F.out.1, F.out.2.1, F.out.2.2, He7, hb8, O9.out⟩
          · have hft : fitsT m'.out t k = false := decide_eq_false hf
            rw [hft]
            have hres : readN x k = ([], [], 4) := by
              rw [HD.out, if_neg (by omega), Int.toNat_natCast]
              have := He1.out
              rw [if_neg hf] at this
              rw [this]
            clear o6
            go_wp2
            go_ret3
            rw [hres]
            exact RetRd.err rfl hb6
        · obtain ⟨j, rfl⟩ : ∃ j, gk = j + 1 := ⟨gk - 1, by omega⟩
          have hle : m.out.length = k := by omega
          have hrd : rdN k (j + 1) s m acc = some (acc, s, m) := by rw [rdN, if_neg (by omega)]
          have HR : Hid (readN x k = if s.e = 0 then if s.rem = [] then (acc, m.out, 0) else ([], [], 5) else ([], [], s.e)) := Lib.hid (by
            rw [HD.out, if_neg (by omega), Int.toNat_natCast, he.out, hrd])
          have o5 := ho.cast (show _ = Re q s * (MdV p a (.slice A m.out.length c) m * (Rw 39 3 v9 acc.length (flat tkL acc) * Emp)) by ac_rfl)
          have HErr := Lib.hid (err_any q s w.heap.size _ wr o5)
          have HLeft := Lib.hid (left_any q s w.heap.size _ wr o5)
          obtain ⟨A2, c2, rfl⟩ := (ho.foc (Rw 39 3 v9 acc.length (flat tkL acc))).row_n
          clear HD he hrd ho2 ho1 hs hm o5
          go_wp2_with fail
          refine HErr.out.mono ?_
          rintro e w6 ⟨rfl, rfl⟩
          by_cases h0 : s.e = 0
          · rw [h0] at HErr ⊢
            go_wp2_with fail
            refine HLeft.out.mono ?_
            rintro e w6 ⟨rfl, rfl⟩
            by_cases hrem : s.rem = []
            · have hres : readN x k = (acc, m.out, 0) := by rw [HR.out, if_pos h0, if_pos hrem]
              rw [hrem]
              go_wp2
              refine wp_region_mix (St w.heap.size _ wr) [0, 1, 2, 3, 4, 5] [6, 7] mixed (by kernel_rfl) rfl (St.drew Bw ho) ?_
              simp only [List.filterMap_cons, List.filterMap_nil, List.getElem?_toArray, List.getElem?_cons_succ, List.getElem?_cons_zero]
              repeat (first
                | (refine held_val ?_ rfl (fun w1 hS => ?_) ?_
                   rotate_left
                   · (have c12 : w1.cell? ⟨p, 12, none⟩ = some (.slice A m.out.length c) := (hS.2.1.cast mdv_eq).cellOf p 12
                      go_simp
                      try go_bits
                      rfl)
                   simp only [Act.put, List.setIfInBounds_toArray, List.set_cons_zero, List.set_cons_succ])
                | (refine held_off rfl ?_
                   simp only [Act.put, List.setIfInBounds_toArray, List.set_cons_zero, List.set_cons_succ]))
              refine held_nil (fun w9 hS => ?_)
              obtain ⟨B9, o9, b9⟩ := hS
              have hb9 := hb.trans b9
              have ocap := (o9.foc (Rw 39 3 (.slice A2 acc.length c2) acc.length (flat tkL acc)))
              have ocap2 := ((o9.cast mdv_eq).foc (Rw 5 1 (.slice A m.out.length c) m.out.length (bytesU m.out)))
              have Fin : Hid (RetRd w (acc, m.out, 0) (.returned (.tuple #[.slice A2 acc.length c2, .slice A m.out.length c, .int .i64 0])) w9) := Lib.hid ⟨A2, c2, A, c, rfl, Own.rdA tkL_len rfl ocap, ocap2.rd, ocap.cap, ocap2.cap, hb9⟩
              clear o9 b9 ocap ocap2 ho
              go_wp2
              go_ret3
              rw [hres]
              have fin := Fin.out
              rw [hle] at fin
              exact fin
            · have hres : readN x k = ([], [], 5) := by rw [HR.out, if_pos h0, if_neg hrem]
              have hrl : (0 : Int) < (s.rem.length : Int) := by have := List.length_pos_iff.2 hrem; omega
              go_wp2
              go_ret3
              rw [hres]
              exact RetRd.err rfl hb
          · have hres : readN x k = ([], [], s.e) := by rw [HR.out, if_neg h0]
            have h0' : (s.e == 0) = false := by simpa using h0
            go_wp2_with fail
            refine HErr.out.mono ?_
            rintro e w6 ⟨rfl, rfl⟩
            go_wp2
            go_ret3
            rw [hres]
            exact RetRd.err rfl hb
end Go.Proofs.Ytedcficjmogohaa

/- Numbers and bytes in a row: plain laws of what is written, and of what is read. -/
namespace Go.Proofs.Ytedcficjmogohaa
set_option linter.unusedVariables false
set_option linter.unusedSimpArgs false
set_option maxRecDepth 100000

/-- A number's bytes. -/
def onum (n : Nat) : List UInt8 := if n < 128 then [UInt8.ofNat n] else UInt8.ofNat (n % 128 + 128) :: onum (n / 128)
termination_by n
decreasing_by omega
theorem onum_small {n : Nat} (h : n < 128) : onum n = [UInt8.ofNat n] := by rw [onum, if_pos h]
theorem onum_big {n : Nat} (h : ¬ n < 128) : onum n = UInt8.ofNat (n % 128 + 128) :: onum (n / 128) := by rw [onum, if_neg h]
def onumI (n : Int) : List UInt8 := onum (if n < 0 ∨ 1099511627775 < n then 0 else n.toNat)
theorem onum_pos (n : Nat) : 1 ≤ (onum n).length := by rw [onum]; split <;> simp
theorem onum_len : ∀ (k n : Nat), n < 128 ^ (k + 1) → (onum n).length ≤ k + 1
  | 0, n, h => by rw [onum_small (by simpa using h)]; simp
  | k + 1, n, h => by
    by_cases hn : n < 128
    · rw [onum_small hn]; simp
    · rw [onum_big hn, List.length_cons]
      have := onum_len k (n / 128) (by rw [Nat.div_lt_iff_lt_mul (by omega)]; rw [Nat.pow_succ] at h; exact h)
      omega
theorem onum_len6 {n : Nat} (h : n ≤ 1099511627775) : (onum n).length ≤ 6 := onum_len 5 n (Nat.lt_of_le_of_lt h (by decide))
theorem onumI_len (n : Int) : (onumI n).length ≤ 6 := by
  unfold onumI
  split
  · rw [onum_small (by omega)]; simp
  · exact onum_len6 (by omega)

/-- What bytes stand for, the lowest first. -/
def lebV : List UInt8 → Nat
  | [] => 0
  | c :: l => c.toNat % 128 + 128 * lebV l
theorem lebV_lt : ∀ l : List UInt8, lebV l < 128 ^ l.length
  | [] => by simp [lebV]
  | c :: l => by
    have h := lebV_lt l
    rw [lebV, List.length_cons, Nat.pow_succ]
    omega
theorem u8_toNat (n : Nat) (h : n < 256) : (UInt8.ofNat n).toNat = n := by simp; omega
theorem lebV_onum : ∀ (k n : Nat), n < 128 ^ (k + 1) → lebV (onum n) = n
  | 0, n, h => by rw [onum_small (by simpa using h), lebV, lebV, u8_toNat _ (by omega)]; simp at h; omega
  | k + 1, n, h => by
    by_cases hn : n < 128
    · rw [onum_small hn, lebV, lebV, u8_toNat _ (by omega)]; omega
    · rw [onum_big hn, lebV, lebV_onum k _ (by rw [Nat.div_lt_iff_lt_mul (by omega)]; rw [Nat.pow_succ] at h; exact h), u8_toNat _ (by omega)]
      omega

/-- The end of the first number: the place of the first byte below 128. -/
def endN : List UInt8 → Option Nat
  | [] => none
  | c :: l => if c.toNat < 128 then some 0 else (endN l).map (· + 1)
theorem endN_lt : ∀ {l : List UInt8} {k : Nat}, endN l = some k → k < l.length
  | [], k, h => by simp [endN] at h
  | c :: l, k, h => by
    unfold endN at h
    split at h
    · injection h with h; subst h; simp
    · obtain ⟨j, hj, rfl⟩ := Option.map_eq_some_iff.1 h
      have := endN_lt hj
      simp; omega
theorem endN_onum (r : List UInt8) : ∀ (n : Nat), endN (onum n ++ r) = some ((onum n).length - 1) := by
  intro n
  induction n using Nat.strongRecOn with
  | _ n ih =>
    by_cases hn : n < 128
    · rw [onum_small hn]; simp [endN]; omega
    · rw [onum_big hn, List.cons_append, endN, if_neg (by rw [u8_toNat _ (by omega)]; omega), ih (n / 128) (by omega)]
      have := onum_pos (n / 128)
      simp; omega

/-- A reader: what is left, and its error. -/
structure OS where
  rest : List UInt8
  err : Int

def readNum (s : OS) (most : Int) : Int × OS :=
  if s.err ≠ 0 then (0, s) else
  match endN s.rest with
  | none => if 6 ≤ s.rest.length then (0, ⟨s.rest, 4⟩) else (0, ⟨s.rest, 2⟩)
  | some k =>
    if 6 ≤ k then (0, ⟨s.rest, 4⟩) else
    if 0 < k ∧ s.rest[k]? = some 0 then (0, ⟨s.rest.drop (k + 1), 4⟩) else
    if most < lebV (s.rest.take (k + 1)) ∨ 1099511627775 < lebV (s.rest.take (k + 1)) then (0, ⟨s.rest.drop (k + 1), 3⟩) else
    (lebV (s.rest.take (k + 1)), ⟨s.rest.drop (k + 1), 0⟩)
def otake (s : OS) (n : Nat) : List UInt8 × OS :=
  if s.err ≠ 0 then ([], s) else
  if s.rest.length < n then ([], ⟨s.rest, 2⟩) else (s.rest.take n, ⟨s.rest.drop n, 0⟩)
def readBytes (s : OS) (most : Int) : List UInt8 × OS := otake (readNum s most).2 (readNum s most).1.toNat
def oleft (s : OS) : Nat := if s.err ≠ 0 then 0 else s.rest.length
def oend (s : OS) : Int := if 0 < oleft s then 5 else s.err

theorem readNum_err {s : OS} (h : s.err ≠ 0) (most : Int) : readNum s most = (0, s) := by unfold readNum; rw [if_pos h]
theorem otake_err {s : OS} (h : s.err ≠ 0) (n : Nat) : otake s n = ([], s) := by unfold otake; rw [if_pos h]
theorem readNum_range (s : OS) (most : Int) (hm : 0 ≤ most) : 0 ≤ (readNum s most).1 ∧ (readNum s most).1 ≤ most ∧ (readNum s most).1 ≤ 1099511627775 := by
  unfold readNum
  split
  · exact ⟨Int.le_refl _, hm, by omega⟩
  split
  · split <;> exact ⟨Int.le_refl _, hm, by show (0 : Int) ≤ _; omega⟩
  · split
    · exact ⟨Int.le_refl _, hm, by show (0 : Int) ≤ _; omega⟩
    split
    · exact ⟨Int.le_refl _, hm, by show (0 : Int) ≤ _; omega⟩
    split
    · exact ⟨Int.le_refl _, hm, by show (0 : Int) ≤ _; omega⟩
    · rename_i h
      rw [not_or] at h
      exact ⟨Int.natCast_nonneg _, by simp only; omega, by simp only; omega⟩
theorem readNum_rest (s : OS) (most : Int) : (readNum s most).2.rest.length ≤ s.rest.length := by
  unfold readNum
  split
  · exact Nat.le_refl _
  split
  · split <;> exact Nat.le_refl _
  · split
    · exact Nat.le_refl _
    split
    · simp
    split <;> simp

/-- WHAT WAS WRITTEN IS READ. -/
theorem readNum_onum {n : Nat} (h : n ≤ 1099511627775) (most : Int) (hm : (n : Int) ≤ most) (r : List UInt8) : readNum ⟨onum n ++ r, 0⟩ most = ((n : Int), ⟨r, 0⟩) := by
  have h1 := onum_pos n
  have h6 := onum_len6 h
  have e : (onum n).length - 1 + 1 = (onum n).length := by omega
  have hv : lebV (onum n) = n := lebV_onum 5 n (Nat.lt_of_le_of_lt h (by decide))
  unfold readNum
  rw [if_neg (by simp)]
  simp only [endN_onum]
  rw [if_neg (by omega), e, List.take_left, List.drop_left, hv]
  have hz : ∀ m : Nat, 128 ≤ m → ¬ (onum m)[(onum m).length - 1]? = some 0 := by
    intro m
    induction m using Nat.strongRecOn with
    | _ m ih =>
      intro hm
      rw [onum_big (by omega), List.length_cons]
      have hp := onum_pos (m / 128)
      rw [show (onum (m / 128)).length + 1 - 1 = ((onum (m / 128)).length - 1) + 1 by omega, List.getElem?_cons_succ]
      by_cases hs : 128 ≤ m / 128
      · exact ih _ (by omega) hs
      · rw [onum_small (by omega)]
        simp
        intro e
        have := congrArg UInt8.toNat e
        rw [u8_toNat _ (by omega)] at this
        simp at this
        omega
  rw [if_neg, if_neg (by omega)]
  rintro ⟨hk, h0⟩
  rw [List.getElem?_append_left (by omega)] at h0
  by_cases hs : 128 ≤ n
  · exact hz n hs h0
  · rw [onum_small (by omega)] at hk; simp at hk

theorem onum_lebV : ∀ (l r : List UInt8) (k : Nat), endN l = some k → ¬ (0 < k ∧ l[k]? = some 0) → l = onum (lebV (l.take (k + 1))) ++ l.drop (k + 1)
  | [], _, k, h, _ => by simp [endN] at h
  | c :: l, r, k, h, h0 => by
    unfold endN at h
    split at h
    · injection h with h; subst h
      rename_i hc
      rw [List.take_succ_cons, List.take_zero, lebV, lebV, onum_small (by omega)]
      simp only [List.drop_succ_cons, List.drop_zero, List.singleton_append, Nat.mul_zero, Nat.add_zero, List.cons.injEq, and_true]
      apply UInt8.toNat.inj
      rw [u8_toNat _ (by omega)]; omega
    · rename_i hc
      obtain ⟨j, hj, rfl⟩ := Option.map_eq_some_iff.1 h
      have hjl := endN_lt hj
      rw [List.getElem?_cons_succ] at h0
      have h0' : ¬ l[j]? = some 0 := fun e => h0 ⟨by omega, e⟩
      have ih := onum_lebV l r j hj (fun e => h0' e.2)
      have hc8 : c.toNat < 256 := c.toNat_lt
      have hpos : 1 ≤ lebV (l.take (j + 1)) := by
        have hg : ∀ (m : List UInt8) (j : Nat), endN m = some j → ¬ m[j]? = some 0 → 1 ≤ lebV (m.take (j + 1)) := by
          intro m
          induction m with
          | nil => intro j hj; simp [endN] at hj
          | cons d m ihm =>
            intro j hj h0
            unfold endN at hj
            split at hj
            · injection hj with hj; subst hj
              rename_i hd
              rw [List.take_succ_cons, List.take_zero, lebV, lebV]
              rw [List.getElem?_cons_zero] at h0
              have : d.toNat ≠ 0 := fun e => h0 (by congr 1; apply UInt8.toNat.inj; rw [e]; rfl)
              omega
            · obtain ⟨i, hi, rfl⟩ := Option.map_eq_some_iff.1 hj
              rw [List.getElem?_cons_succ] at h0
              have := ihm i hi h0
              rw [List.take_succ_cons, lebV]; omega
        exact hg l j hj h0'
      rw [List.take_succ_cons, lebV, onum_big (by omega)]
      have e1 : (c.toNat % 128 + 128 * lebV (l.take (j + 1))) % 128 = c.toNat % 128 := by omega
      have e2 : (c.toNat % 128 + 128 * lebV (l.take (j + 1))) / 128 = lebV (l.take (j + 1)) := by omega
      rw [e1, e2, List.cons_append, List.drop_succ_cons, ← ih]
      congr 1
      apply UInt8.toNat.inj
      rw [u8_toNat _ (by omega)]; omega
/-- WHAT IS READ IS WHAT WOULD HAVE BEEN WRITTEN. -/
theorem readNum_ok {s : OS} {most n : Int} {t : OS} (h : readNum s most = (n, t)) (ht : t.err = 0) : s.err = 0 ∧ s.rest = onum n.toNat ++ t.rest ∧ 0 ≤ n ∧ n ≤ most ∧ n ≤ 1099511627775 := by
  unfold readNum at h
  split at h
  · rename_i he
    injection h with h1 h2; subst h2; exact absurd ht he
  rename_i he
  have he : s.err = 0 := by simpa using he
  refine ⟨he, ?_⟩
  split at h
  · split at h <;> (injection h with h1 h2; subst h2; simp at ht)
  · rename_i k hk
    split at h
    · injection h with h1 h2; subst h2; simp at ht
    split at h
    · injection h with h1 h2; subst h2; simp at ht
    split at h
    · injection h with h1 h2; subst h2; simp at ht
    · rename_i h0 hr
      rw [not_or] at hr
      injection h with h1 h2
      subst h1; subst h2
      refine ⟨?_, Int.natCast_nonneg _, by omega, by omega⟩
      rw [Int.toNat_natCast]
      exact onum_lebV s.rest [] k hk h0
theorem otake_ok {s : OS} {n : Nat} {x : List UInt8} {t : OS} (h : otake s n = (x, t)) (ht : t.err = 0) : s.err = 0 ∧ s.rest = x ++ t.rest ∧ x.length = n := by
  unfold otake at h
  split at h
  · rename_i he; injection h with h1 h2; subst h2; exact absurd ht he
  rename_i he
  split at h
  · injection h with h1 h2; subst h2; simp at ht
  · injection h with h1 h2; subst h1; subst h2
    rename_i hl
    exact ⟨by simpa using he, by simp, by rw [List.length_take]; omega⟩
/-- How many bytes, and they. -/
def bytesN (x : List UInt8) : List UInt8 := onum x.length ++ x
theorem readBytes_bytes {x : List UInt8} (most : Int) (hm : (x.length : Int) ≤ most) (h : x.length ≤ 1099511627775) (r : List UInt8) : readBytes ⟨bytesN x ++ r, 0⟩ most = (x, ⟨r, 0⟩) := by
  unfold readBytes bytesN
  rw [List.append_assoc, readNum_onum h most hm]
  simp only [Int.toNat_natCast]
  unfold otake
  rw [if_neg (by simp), if_neg (by simp), List.take_left, List.drop_left]
theorem readBytes_ok {s : OS} {most : Int} {x : List UInt8} {t : OS} (h : readBytes s most = (x, t)) (ht : t.err = 0) : s.err = 0 ∧ s.rest = bytesN x ++ t.rest ∧ (x.length : Int) ≤ most ∧ (x.length : Int) ≤ 1099511627775 := by
  unfold readBytes at h
  obtain ⟨h1, h2, h3⟩ := otake_ok h ht
  generalize hr : readNum s most = q at *
  obtain ⟨n, u⟩ := q
  obtain ⟨h4, h5, h6, h7, h8⟩ := readNum_ok hr h1
  simp only at h2 h3
  refine ⟨h4, ?_, by omega, by omega⟩
  unfold bytesN
  rw [h5, h2, h3, List.append_assoc]
theorem readBytes_err {s : OS} (h : s.err ≠ 0) (most : Int) : readBytes s most = ([], s) := by
  unfold readBytes
  rw [readNum_err h]
  exact otake_err h _
theorem otake_len (s : OS) (n : Nat) : (otake s n).1.length ≤ n ∧ (otake s n).2.rest.length ≤ s.rest.length := by
  unfold otake
  split
  · simp
  split
  · simp
  · simp [List.length_take]; omega
theorem readBytes_len (s : OS) (most : Int) (hm : 0 ≤ most) : ((readBytes s most).1.length : Int) ≤ most ∧ (readBytes s most).2.rest.length ≤ s.rest.length := by
  unfold readBytes
  have h1 := otake_len (readNum s most).2 (readNum s most).1.toNat
  have h2 := readNum_range s most hm
  have h3 := readNum_rest s most
  exact ⟨by omega, by omega⟩
end Go.Proofs.Ytedcficjmogohaa

/- The walks over what package octet writes: Number, Bytes. -/
namespace Go.Proofs.Ytedcficjmogohaa
set_option linter.unusedVariables false
set_option linter.unusedSimpArgs false
set_option maxRecDepth 100000
open Go.RowKit


set_option maxRecDepth 100000 in
set_option maxHeartbeats 1600000 in
theorem number_any (v : Value) (l : List UInt8) (hl : l.length ≤ 140737488300000) (n : Int) (w : World) (hr : Rd w v (bytesU l)) :
    Calls Try.prog 20 #[v, .int .i64 n] w (RetB w (l ++ onumI n)) := by
  obtain ⟨A0, c0, rfl, _⟩ := id hr
  have Hc := Lib.hid (fun w1 (b : Below w.heap.size w w1) => clone_any (.slice A0 (bytesU l).length c0) l w1 (hr.below b) (by omega))
  rw [bytesU_length] at Hc ⊢
  clear hr
  by_cases h1 : n < 0
  · have hn : onumI n = onum 0 := by unfold onumI; rw [if_pos (.inl h1)]
    rw [hn]
    clear hn
    go_enter Try.func20, Try.ntmps20
    go_wp2_with fail
    refine (Hc.out _ (Below.refl _ _)).mono ?_
    rintro e w1 ⟨v1, rfl, ho1, b1⟩
    have o1 : Own w.heap.size (Rw 5 1 v1 l.length (bytesU l) * Emp) w1 := Own.fresh (Nat.le_refl _) (Own.start _ _) ho1 b1
    obtain ⟨A1, c1, rfl⟩ := o1.row_n
    clear ho1
    go_wp2
    go_loopg [1, 5] (onum 0).length (fun k x v wr => ∃ (j : Nat) (out : List UInt8) (A : Option Addr) (c : Nat), k = (onum j).length ∧ x = .int .i64 (j : Int) ∧ v = .slice A out.length c ∧ j ≤ 1099511627775 ∧ Own w.heap.size (Rw 5 1 (.slice A out.length c) out.length (bytesU out) * Emp) wr ∧ Below w.heap.size w wr ∧ Hid (out ++ onum j = l ++ onum 0))
    case atStart => exact ⟨0, l, A1, c1, rfl, rfl, rfl, (by omega), o1, b1, Lib.hid rfl⟩
    case round =>
      clear b1 o1
      obtain ⟨j, out, A, c, rfl, rfl, rfl, hj, ho, hb, he⟩ := hrel
      have hol : out.length ≤ 140737488355327 := by
        have h2 := congrArg List.length he.out
        rw [List.length_append, List.length_append] at h2
        have h3 := onum_len6 (n := 0) (by omega)
        omega
      by_cases h127 : (127 : Int) < (j : Int)
      · have hjn : ¬ j < 128 := by omega
        have e1 := i64_and127 j (by omega)
        have e2 := i64_or128 (j % 128) (by omega)
        have hc8 : (UInt8.ofNat (j % 128 + 128)).toNat = j % 128 + 128 := u8_toNat _ (by omega)
        have h2 := onum_big hjn
        obtain ⟨g, cap, w2, hrun, o2, b2⟩ := byte_snoc hb.size ho (UInt8.ofNat (j % 128 + 128)) ((j % 128 + 128 : Nat) : Int) (by rw [hc8]) hol
        obtain ⟨r, hr⟩ : ∃ r : Nat, r = j % 128 := ⟨_, rfl⟩
        obtain ⟨q, hq⟩ : ∃ q : Nat, q = r + 128 := ⟨_, rfl⟩
        obtain ⟨s, hs⟩ : ∃ s : Nat, s = j / 128 := ⟨_, rfl⟩
        rw [← hr] at e1 e2 hrun
        rw [← hq] at e2 hrun
        have hs2 : (j : Int) / 128 = (s : Int) := by omega
        have q1 : (q : Int) < 256 := by omega
        have q0 : (0 : Int) ≤ (q : Int) := by omega
        have Hq := Lib.hid (And.intro hs h2)
        have Hrun := Lib.hid hrun
        clear hr hq hs h2 hc8 hrun hjn
        go_wp2_with (at_builtin; refine wpList_append_run rfl (.tmp 18) (.tmp 23) 22 rfl rfl rfl Hrun.out ?_)
        go_roundg (onum s).length
        case measure => have := Hq.out; rw [this.2, List.length_cons, ← this.1]; omega
        case rel =>
          obtain ⟨q1, q2⟩ := Hq.out
          exact ⟨s, _, _, _, rfl, rfl, by simp, by omega, o2, hb.trans b2, Lib.hid (by rw [← he.out, q2, q1]; simp)⟩
      · have hjn : j < 128 := by omega
        have hc8 : (UInt8.ofNat j).toNat = j := u8_toNat _ (by omega)
        have h2 := onum_small hjn
        obtain ⟨g, cap, w2, hrun, o2, b2⟩ := byte_snoc hb.size ho (UInt8.ofNat j) (j : Int) (by rw [hc8]) hol
        have j1 : (j : Int) < 128 := by omega
        have Hrun := Lib.hid hrun
        have H2 := Lib.hid h2
        have hb2 := hb.trans b2
        clear h2 hrun hc8
        go_wp2_with (at_builtin; refine wpList_append_run rfl (.tmp 25) (.tmp 28) 22 rfl rfl rfl Hrun.out ?_)
        go_ret
        have he2 : out ++ [UInt8.ofNat j] = l ++ onum 0 := by rw [← he.out, H2.out]
        exact RetB.mk rfl (by simp) he2 rfl o2 hb2
  · by_cases h2 : 1099511627775 < n
    · have hn : onumI n = onum 0 := by unfold onumI; rw [if_pos (.inr h2)]
      rw [hn]
      clear hn
      go_enter Try.func20, Try.ntmps20
      go_wp2_with fail
      refine (Hc.out _ (Below.refl _ _)).mono ?_
      rintro e w1 ⟨v1, rfl, ho1, b1⟩
      have o1 : Own w.heap.size (Rw 5 1 v1 l.length (bytesU l) * Emp) w1 := Own.fresh (Nat.le_refl _) (Own.start _ _) ho1 b1
      obtain ⟨A1, c1, rfl⟩ := o1.row_n
      clear ho1
      go_wp2
      go_loopg [1, 5] (onum 0).length (fun k x v wr => ∃ (j : Nat) (out : List UInt8) (A : Option Addr) (c : Nat), k = (onum j).length ∧ x = .int .i64 (j : Int) ∧ v = .slice A out.length c ∧ j ≤ 1099511627775 ∧ Own w.heap.size (Rw 5 1 (.slice A out.length c) out.length (bytesU out) * Emp) wr ∧ Below w.heap.size w wr ∧ Hid (out ++ onum j = l ++ onum 0))
      case atStart => exact ⟨0, l, A1, c1, rfl, rfl, rfl, (by omega), o1, b1, Lib.hid rfl⟩
      case round =>
        clear b1 o1
        obtain ⟨j, out, A, c, rfl, rfl, rfl, hj, ho, hb, he⟩ := hrel
        have hol : out.length ≤ 140737488355327 := by
          have h2 := congrArg List.length he.out
          rw [List.length_append, List.length_append] at h2
          have h3 := onum_len6 (n := 0) (by omega)
          omega
        by_cases h127 : (127 : Int) < (j : Int)
        · have hjn : ¬ j < 128 := by omega
          have e1 := i64_and127 j (by omega)
          have e2 := i64_or128 (j % 128) (by omega)
          have hc8 : (UInt8.ofNat (j % 128 + 128)).toNat = j % 128 + 128 := u8_toNat _ (by omega)
          have h2 := onum_big hjn
          obtain ⟨g, cap, w2, hrun, o2, b2⟩ := byte_snoc hb.size ho (UInt8.ofNat (j % 128 + 128)) ((j % 128 + 128 : Nat) : Int) (by rw [hc8]) hol
          obtain ⟨r, hr⟩ : ∃ r : Nat, r = j % 128 := ⟨_, rfl⟩
          obtain ⟨q, hq⟩ : ∃ q : Nat, q = r + 128 := ⟨_, rfl⟩
          obtain ⟨s, hs⟩ : ∃ s : Nat, s = j / 128 := ⟨_, rfl⟩
          rw [← hr] at e1 e2 hrun
          rw [← hq] at e2 hrun
          have hs2 : (j : Int) / 128 = (s : Int) := by omega
          have q1 : (q : Int) < 256 := by omega
          have q0 : (0 : Int) ≤ (q : Int) := by omega
          have Hq := Lib.hid (And.intro hs h2)
          have Hrun := Lib.hid hrun
          clear hr hq hs h2 hc8 hrun hjn
          go_wp2_with (at_builtin; refine wpList_append_run rfl (.tmp 18) (.tmp 23) 22 rfl rfl rfl Hrun.out ?_)
          go_roundg (onum s).length
          case measure => have := Hq.out; rw [this.2, List.length_cons, ← this.1]; omega
          case rel =>
            obtain ⟨q1, q2⟩ := Hq.out
            exact ⟨s, _, _, _, rfl, rfl, by simp, by omega, o2, hb.trans b2, Lib.hid (by rw [← he.out, q2, q1]; simp)⟩
        · have hjn : j < 128 := by omega
          have hc8 : (UInt8.ofNat j).toNat = j := u8_toNat _ (by omega)
          have h2 := onum_small hjn
          obtain ⟨g, cap, w2, hrun, o2, b2⟩ := byte_snoc hb.size ho (UInt8.ofNat j) (j : Int) (by rw [hc8]) hol
          have j1 : (j : Int) < 128 := by omega
          have Hrun := Lib.hid hrun
          have H2 := Lib.hid h2
          have hb2 := hb.trans b2
          clear h2 hrun hc8
          go_wp2_with (at_builtin; refine wpList_append_run rfl (.tmp 25) (.tmp 28) 22 rfl rfl rfl Hrun.out ?_)
          go_ret
          have he2 : out ++ [UInt8.ofNat j] = l ++ onum 0 := by rw [← he.out, H2.out]
          exact RetB.mk rfl (by simp) he2 rfl o2 hb2
    · have hn : onumI n = onum n.toNat := by unfold onumI; rw [if_neg (by omega)]
      obtain ⟨m, rfl⟩ : ∃ m : Nat, n = (m : Int) := ⟨n.toNat, by omega⟩
      rw [hn, Int.toNat_natCast]
      clear hn
      go_enter Try.func20, Try.ntmps20
      go_wp2_with fail
      refine (Hc.out _ (Below.refl _ _)).mono ?_
      rintro e w1 ⟨v1, rfl, ho1, b1⟩
      have o1 : Own w.heap.size (Rw 5 1 v1 l.length (bytesU l) * Emp) w1 := Own.fresh (Nat.le_refl _) (Own.start _ _) ho1 b1
      obtain ⟨A1, c1, rfl⟩ := o1.row_n
      clear ho1
      go_wp2
      go_loopg [1, 5] (onum m).length (fun k x v wr => ∃ (j : Nat) (out : List UInt8) (A : Option Addr) (c : Nat), k = (onum j).length ∧ x = .int .i64 (j : Int) ∧ v = .slice A out.length c ∧ j ≤ 1099511627775 ∧ Own w.heap.size (Rw 5 1 (.slice A out.length c) out.length (bytesU out) * Emp) wr ∧ Below w.heap.size w wr ∧ Hid (out ++ onum j = l ++ onum m))
      case atStart => exact ⟨m, l, A1, c1, rfl, rfl, rfl, (by omega), o1, b1, Lib.hid rfl⟩
      case round =>
        clear b1 o1
        obtain ⟨j, out, A, c, rfl, rfl, rfl, hj, ho, hb, he⟩ := hrel
        have hol : out.length ≤ 140737488355327 := by
          have h2 := congrArg List.length he.out
          rw [List.length_append, List.length_append] at h2
          have h3 := onum_len6 (n := m) (by omega)
          omega
        by_cases h127 : (127 : Int) < (j : Int)
        · have hjn : ¬ j < 128 := by omega
          have e1 := i64_and127 j (by omega)
          have e2 := i64_or128 (j % 128) (by omega)
          have hc8 : (UInt8.ofNat (j % 128 + 128)).toNat = j % 128 + 128 := u8_toNat _ (by omega)
          have h2 := onum_big hjn
          obtain ⟨g, cap, w2, hrun, o2, b2⟩ := byte_snoc hb.size ho (UInt8.ofNat (j % 128 + 128)) ((j % 128 + 128 : Nat) : Int) (by rw [hc8]) hol
          obtain ⟨r, hr⟩ : ∃ r : Nat, r = j % 128 := ⟨_, rfl⟩
          obtain ⟨q, hq⟩ : ∃ q : Nat, q = r + 128 := ⟨_, rfl⟩
          obtain ⟨s, hs⟩ : ∃ s : Nat, s = j / 128 := ⟨_, rfl⟩
          rw [← hr] at e1 e2 hrun
          rw [← hq] at e2 hrun
          have hs2 : (j : Int) / 128 = (s : Int) := by omega
          have q1 : (q : Int) < 256 := by omega
          have q0 : (0 : Int) ≤ (q : Int) := by omega
          have Hq := Lib.hid (And.intro hs h2)
          have Hrun := Lib.hid hrun
          clear hr hq hs h2 hc8 hrun hjn
          go_wp2_with (at_builtin; refine wpList_append_run rfl (.tmp 18) (.tmp 23) 22 rfl rfl rfl Hrun.out ?_)
          go_roundg (onum s).length
          case measure => have := Hq.out; rw [this.2, List.length_cons, ← this.1]; omega
          case rel =>
            obtain ⟨q1, q2⟩ := Hq.out
            exact ⟨s, _, _, _, rfl, rfl, by simp, by omega, o2, hb.trans b2, Lib.hid (by rw [← he.out, q2, q1]; simp)⟩
        · have hjn : j < 128 := by omega
          have hc8 : (UInt8.ofNat j).toNat = j := u8_toNat _ (by omega)
          have h2 := onum_small hjn
          obtain ⟨g, cap, w2, hrun, o2, b2⟩ := byte_snoc hb.size ho (UInt8.ofNat j) (j : Int) (by rw [hc8]) hol
          have j1 : (j : Int) < 128 := by omega
          have Hrun := Lib.hid hrun
          have H2 := Lib.hid h2
          have hb2 := hb.trans b2
          clear h2 hrun hc8
          go_wp2_with (at_builtin; refine wpList_append_run rfl (.tmp 25) (.tmp 28) 22 rfl rfl rfl Hrun.out ?_)
          go_ret
          have he2 : out ++ [UInt8.ofNat j] = l ++ onum m := by rw [← he.out, H2.out]
          exact RetB.mk rfl (by simp) he2 rfl o2 hb2

end Go.Proofs.Ytedcficjmogohaa

/- A reader of package octet as it lies, and the walks over its short methods. -/
namespace Go.Proofs.Ytedcficjmogohaa
set_option linter.unusedVariables false
set_option linter.unusedSimpArgs false
set_option maxRecDepth 100000
open Go.RowKit

/-- A slice value reads as these bytes, out of a block that is owned. -/
def okV (w : World) (F : Nat → Prop) (v : Value) (l : List UInt8) : Prop :=
  ∃ A c, v = .slice A l.length c ∧ l.length ≤ c ∧ c ≤ 9223372036854775807 ∧ (l ≠ [] → ∃ b off, A = some ⟨b, off, none⟩ ∧ F b ∧ ∀ j u, (bytesU l)[j]? = some u → w.cell? ⟨b, off + j, none⟩ = some u)
theorem okV.rd {w : World} {F : Nat → Prop} {v : Value} {l : List UInt8} (h : okV w F v l) : Rd w v (bytesU l) := by
  obtain ⟨A, c, rfl, _, _, h⟩ := h
  refine ⟨A, c, by rw [bytesU_length], fun hne => ?_⟩
  obtain ⟨b, off, rfl, _, hc⟩ := h (by intro e; subst e; exact hne rfl)
  exact ⟨_, rfl, fun j u hu => by rw [Addr.add_lit]; exact hc j u hu⟩
theorem okV.nil (w : World) (F : Nat → Prop) : okV w F (.slice none 0 0) [] := ⟨none, 0, rfl, Nat.le_refl _, by omega, fun h => absurd rfl h⟩
/-- Slices that read out of blocks that are owned, and that nobody writes. -/
def Rss (vs : List (Value × List UInt8)) : HP := fun w F => ∀ x ∈ vs, okV w F x.1 x.2
instance Loc.rss {B : Nat} {vs : List (Value × List UInt8)} : Loc B (Rss vs) where
  keep := fun w w' F h _ hv x hx => by
    obtain ⟨A, c, e, h1, h2, h3⟩ := hv x hx
    refine ⟨A, c, e, h1, h2, fun hne => ?_⟩
    obtain ⟨b, off, ha, hF, hc⟩ := h3 hne
    exact ⟨b, off, ha, hF, fun j u hu => (World.cell?_of_block (a := ⟨b, off + j, none⟩) (h b hF)).trans (hc j u hu)⟩
  up := fun w F F' h hv x hx => by
    obtain ⟨A, c, e, h1, h2, h3⟩ := hv x hx
    refine ⟨A, c, e, h1, h2, fun hne => ?_⟩
    obtain ⟨b, off, ha, hF, hc⟩ := h3 hne
    exact ⟨b, off, ha, h b hF, hc⟩
theorem Own.rss {B : Nat} {vs : List (Value × List UInt8)} {R : HP} {w : World} (h : Own B (Rss vs * R) w) {x : Value × List UInt8} (hx : x ∈ vs) : Rd w x.1 (bytesU x.2) := by
  obtain ⟨F, hf, F1, F2, hd, h1, h2, ha, hr⟩ := h
  exact (ha x hx).rd
theorem Own.rss_less {B : Nat} {vs vs' : List (Value × List UInt8)} {R : HP} {w : World} (h : Own B (Rss vs * R) w) (hs : ∀ x ∈ vs', x ∈ vs) : Own B (Rss vs' * R) w :=
  h.mono fun w F ⟨F1, F2, hd, h1, h2, ha, hr⟩ => ⟨F1, F2, hd, h1, h2, fun x hx => ha x (hs x hx), hr⟩
/-- A row of bytes that is owned, as what is read alone. -/
theorem Own.rss_of {B : Nat} {R : HP} {w : World} {v : Value} {l : List UInt8} (h : Own B (Rw 5 1 v l.length (bytesU l) * R) w) : Own B (Rss [(v, l)] * R) w := by
  refine h.mono fun w F ⟨F1, F2, hd, h1, h2, ha, hr⟩ => ⟨F1, F2, hd, h1, h2, fun x hx => ?_, hr⟩
  obtain rfl := List.mem_singleton.1 hx
  obtain ⟨ho, hb⟩ := ha
  rcases ho.2 with ⟨hn, h0⟩ | ⟨g, cap, cur, rfl, _, hg, h5, h6, h7, h8⟩
  · have e0 : l = [] := List.eq_nil_of_length_eq_zero h0
    subst e0
    subst hn
    exact okV.nil w F1
  · exact ⟨_, cap, rfl, h5, by simpa [maxLen] using h6, fun _ => ⟨g, 0, rfl, hb g (by simp [Value.ownBlock]), fun j u hu => by
      have := ho.cells (g := g) rfl j u hu
      rwa [Addr.add_lit] at this⟩⟩
theorem okV.at_block {w : World} {F : Nat → Prop} {A : Option Addr} {n c : Nat} {l : List UInt8} (h : okV w F (.slice A n c) l) (hne : l ≠ []) : ∀ a, A = some a → F a.block := by
  obtain ⟨A', c', e, _, _, h3⟩ := h
  injection e with e1 _ e3
  subst e1
  obtain ⟨b, off, rfl, hF, _⟩ := h3 hne
  intro a ha
  cases ha
  exact hF
/-- A reader: its cells, and what it, and what was taken of it, read. -/
def RdrV (v : Value) (p : Nat) (s : OS) (vs : List (Value × List UInt8)) : HP := Bk p 85 #[v, .int .i64 s.err] * Rss ((v, s.rest) :: vs)
def Rdr (p : Nat) (s : OS) (vs : List (Value × List UInt8)) : HP := Hex fun v => RdrV v p s vs
instance Loc.rdrv {B : Nat} {v : Value} {p : Nat} {s : OS} {vs : List (Value × List UInt8)} : Loc B (RdrV v p s vs) := inferInstanceAs (Loc B (Bk _ _ _ * Rss _))
instance Loc.rdr {B : Nat} {p : Nat} {s : OS} {vs : List (Value × List UInt8)} : Loc B (Rdr p s vs) := inferInstanceAs (Loc B (Hex _))
theorem Own.rdr_less {B : Nat} {p : Nat} {s : OS} {vs vs' : List (Value × List UInt8)} {R : HP} {w : World} (h : Own B (Rdr p s vs * R) w) (hs : ∀ x ∈ vs', x ∈ vs) : Own B (Rdr p s vs' * R) w := by
  obtain ⟨v, hV⟩ := h.hex
  refine Own.to_hex v ?_
  have := hV.mono (C := RdrV v p s vs' * R) fun w F ⟨F1, F2, hd, h1, h2, ⟨G1, G2, gd, g1, g2, hb, ha⟩, hr⟩ => ⟨F1, F2, hd, h1, h2, ⟨G1, G2, gd, g1, g2, hb, fun x hx => ha x (by
    rcases List.mem_cons.1 hx with rfl | hx
    · exact List.mem_cons_self
    · exact List.mem_cons_of_mem _ (hs x hx))⟩, hr⟩
  exact this
/-- The reader is gone; what was taken of it stays. -/
theorem Own.rdr_done {B : Nat} {p : Nat} {s : OS} {vs : List (Value × List UInt8)} {R : HP} {w : World} (h : Own B (Rdr p s vs * R) w) : Own B (Rss vs * R) w := by
  obtain ⟨v, hV⟩ := h.hex
  exact hV.assoc.right.rss_less fun x hx => List.mem_cons_of_mem _ hx
theorem Own.rdr_view {B : Nat} {p : Nat} {s : OS} {vs : List (Value × List UInt8)} {R : HP} {w : World} (h : Own B (Rdr p s vs * R) w) {x : Value × List UInt8} (hx : x ∈ vs) : Rd w x.1 (bytesU x.2) := h.rdr_done.rss hx

def ofail (s : OS) (z : Int) : OS := if s.err = 0 then ⟨s.rest, z⟩ else s
section
variable (p : Nat) (s : OS) (vs : List (Value × List UInt8)) (B : Nat) (R : HP) (w : World)
theorem rerr_any (hO : Own B (Rdr p s vs * R) w) : Calls Try.prog 25 #[.pointer (some ⟨p, 0, none⟩)] w fun e w' => e = .returned (.int .i64 s.err) ∧ w' = w := by
  obtain ⟨v, hV⟩ := hO.hex
  have hV := hV.assoc
  have c1 : w.cell? ⟨p, 1, none⟩ = some (.int .i64 s.err) := hV.cell 1
  clear hV
  go_enter Try.func25, Try.ntmps25
  go_wp2
  go_ret
  exact ⟨rfl, rfl⟩
theorem rfail_any [Loc B R] (hB : B ≤ w.heap.size) (z : Int) (hO : Own B (Rdr p s vs * R) w) : Calls Try.prog 47 #[.pointer (some ⟨p, 0, none⟩), .int .i64 z] w (Ret B w (.tuple #[]) (Rdr p (ofail s z) vs * R)) := by
  obtain ⟨v, hV⟩ := hO.hex
  have hV := hV.assoc
  have c1 : w.cell? ⟨p, 1, none⟩ = some (.int .i64 s.err) := hV.cell 1
  have z1 := hV.unfrozen 1
  have s1 := hV.set hB 1 (.int .i64 z)
  have b1 := hV.below_set 1 (.int .i64 z)
  by_cases he : s.err = 0
  · have o2 : Own B (Rdr p (ofail s z) vs * R) _ := Own.to_hex v (by unfold ofail; rw [if_pos he]; exact s1.assoc')
    rw [he] at c1
    clear hV s1
    go_enter Try.func47, Try.ntmps47
    go_wp2
    go_end0
    exact ⟨rfl, o2, b1⟩
  · have o2 : Own B (Rdr p (ofail s z) vs * R) w := by unfold ofail; rw [if_neg he]; exact hO
    have he' : (s.err == 0) = false := by simpa using he
    clear hV s1 b1
    generalize s.err = q at c1 he he'
    go_enter Try.func47, Try.ntmps47
    go_wp2
    go_end0
    exact ⟨rfl, o2, Below.refl _ _⟩
theorem rleft_any (hO : Own B (Rdr p s vs * R) w) : Calls Try.prog 27 #[.pointer (some ⟨p, 0, none⟩)] w fun e w' => e = .returned (.int .i64 (oleft s : Int)) ∧ w' = w := by
  have E := rerr_any p s vs B R w hO
  obtain ⟨v, hV⟩ := hO.hex
  have hV := hV.assoc
  obtain ⟨A, c, rfl⟩ : ∃ A c, v = .slice A s.rest.length c := by
    obtain ⟨F, hf, F1, F2, hd, h1, h2, ha, F3, F4, hd', h3, h4, hv, _⟩ := hV
    obtain ⟨A, c, e, _⟩ := hv _ List.mem_cons_self
    exact ⟨A, c, e⟩
  have c0 : w.cell? ⟨p, 0, none⟩ = some (.slice A s.rest.length c) := hV.cell 0
  by_cases he : s.err = 0
  · have e2 : oleft s = s.rest.length := by unfold oleft; rw [if_neg (by omega)]
    rw [e2]
    rw [he] at E
    clear hV e2
    go_enter Try.func27, Try.ntmps27
    go_wp2_with fail
    refine E.mono ?_
    rintro e w1 ⟨rfl, rfl⟩
    go_wp2
    go_ret
    exact ⟨rfl, rfl⟩
  · have e2 : oleft s = 0 := by unfold oleft; rw [if_pos he]
    have he' : (s.err == 0) = false := by simpa using he
    rw [e2]
    clear hV e2
    generalize s.err = q at E he he'
    go_enter Try.func27, Try.ntmps27
    go_wp2_with fail
    refine E.mono ?_
    rintro e w1 ⟨rfl, rfl⟩
    go_wp2
    go_ret
    exact ⟨rfl, rfl⟩
end
end Go.Proofs.Ytedcficjmogohaa

/- The walks over New and take of package octet's reader. -/
namespace Go.Proofs.Ytedcficjmogohaa
set_option linter.unusedVariables false
set_option linter.unusedSimpArgs false
set_option maxRecDepth 100000
open Go.RowKit

set_option maxRecDepth 100000 in
theorem rnew_any (v : Value) (l : List UInt8) (hl : l.length ≤ 140737488355328) (B : Nat) (R : HP) [Loc B R] (w : World) (hB : B ≤ w.heap.size) (hO : Own B R w) (hr : Rd w v (bytesU l)) :
    Calls Try.prog 23 #[v] w fun e w' => ∃ p, Ret B w (.pointer (some ⟨p, 0, none⟩)) (Rdr p ⟨l, 0⟩ [] * R) e w' := by
  have C := clone_any v l w hr hl
  obtain ⟨A, c, rfl, _⟩ := id hr
  clear hr
  go_enter Try.func23, Try.ntmps23
  go_wp2_with fail
  refine C.mono ?_
  rintro e w1 ⟨v1, rfl, ho1, b1⟩
  have o1 : Own B (Rw 5 1 v1 l.length (bytesU l) * R) w1 := Own.fresh hB hO ho1 b1
  have o2 := o1.rss_of
  have B1 := Nat.le_trans hB b1.size
  have o3 := o2.new B1 85 #[v1, .int .i64 0]
  have b3 := (b1.mono hB).alloc B1 (.cells #[v1, .int .i64 0] 85)
  obtain ⟨A1, c1, rfl⟩ := o1.row_n
  have o4 : Own B (Rdr w1.heap.size ⟨l, 0⟩ [] * R) _ := Own.to_hex _ (o3.assoc')
  clear ho1 o1 o2 o3 hO
  go_wp2
  go_ret
  exact ⟨_, rfl, o4, b3⟩

/-- What is taken of what is left is read, too. -/
theorem okV.taken {w : World} {F : Nat → Prop} {A : Option Addr} {c : Nat} {l : List UInt8} (h : okV w F (.slice A l.length c) l) (n : Nat) (hn : n ≤ l.length) : okV w F (.slice A n n) (l.take n) := by
  obtain ⟨A', c', e, h1, h2, h3⟩ := h
  injection e with e1 _ e3
  subst e1; subst e3
  have hlen : (l.take n).length = n := by rw [List.length_take]; omega
  refine ⟨A, n, by rw [hlen], by omega, by omega, fun hne => ?_⟩
  obtain ⟨b, off, rfl, hF, hc⟩ := h3 (by intro e; subst e; simp at hne)
  refine ⟨b, off, rfl, hF, fun j u hu => hc j u ?_⟩
  unfold bytesU at hu ⊢
  rw [List.map_take, List.getElem?_take] at hu
  split at hu
  · exact hu
  · cases hu
theorem okV.left {w : World} {F : Nat → Prop} {A : Option Addr} {c : Nat} {l : List UInt8} (h : okV w F (.slice A l.length c) l) (n : Nat) (hn : n ≤ l.length) : okV w F (.slice (if c = n then A else A.map (fun x => x.add n)) (l.length - n) (c - n)) (l.drop n) := by
  obtain ⟨A', c', e, h1, h2, h3⟩ := h
  injection e with e1 _ e3
  subst e1; subst e3
  refine ⟨_, c - n, by rw [List.length_drop], by rw [List.length_drop]; omega, by omega, fun hne => ?_⟩
  have hlt : n < l.length := by
    by_cases h : n < l.length
    · exact h
    · exact absurd (List.drop_eq_nil_of_le (by omega)) hne
  obtain ⟨b, off, rfl, hF, hc⟩ := h3 (by intro e; subst e; simp at hlt)
  rw [if_neg (by omega)]
  refine ⟨b, off + n, by simp [Addr.add], hF, fun j u hu => ?_⟩
  unfold bytesU at hu
  rw [List.map_drop, List.getElem?_drop] at hu
  rw [Nat.add_assoc]
  exact hc _ _ hu

set_option maxRecDepth 100000 in
set_option maxHeartbeats 1600000 in
theorem rtake_any (p : Nat) (s : OS) (vs : List (Value × List UInt8)) (n : Nat) (B : Nat) (R : HP) [Loc B R] (w : World) (hB : B ≤ w.heap.size) (hn : n ≤ 9223372036854775807) (hO : Own B (Rdr p s vs * R) w) :
    Calls Try.prog 48 #[.pointer (some ⟨p, 0, none⟩), .int .i64 (n : Int)] w fun e w' => ∃ x, Ret B w x (Rdr p (otake s n).2 ((x, (otake s n).1) :: vs) * R) e w' := by
  have E := rerr_any p s vs B R w hO
  obtain ⟨v, hV⟩ := hO.hex
  have hV := hV.assoc
  have hnil : ∀ {q : Value} {s' : OS} {w' : World}, Own B (RdrV q p s' vs * R) w' → Own B (Rdr p s' ((.slice none 0 0, []) :: vs) * R) w' := fun {q s' w'} h => Own.to_hex q (h.mono (C := RdrV q p s' ((.slice none 0 0, []) :: vs) * R) fun w F ⟨F1, F2, hd, h1, h2, ⟨G1, G2, gd, g1, g2, hb, ha⟩, hr⟩ => ⟨F1, F2, hd, h1, h2, ⟨G1, G2, gd, g1, g2, hb, fun x hx => by
    rcases List.mem_cons.1 hx with rfl | hx
    · exact ha _ List.mem_cons_self
    rcases List.mem_cons.1 hx with rfl | hx
    · exact okV.nil _ _
    · exact ha _ (List.mem_cons_of_mem _ hx)⟩, hr⟩)
  by_cases he : s.err = 0
  · obtain ⟨A, c, rfl, hlc, hcm⟩ : ∃ A c, v = .slice A s.rest.length c ∧ s.rest.length ≤ c ∧ c ≤ 9223372036854775807 := by
      obtain ⟨F, hf, F1, F2, hd, h1, h2, ha, F3, F4, hd', h3, h4, hv, _⟩ := hV
      obtain ⟨A, c, e, q1, q2, _⟩ := hv _ List.mem_cons_self
      exact ⟨A, c, e, q1, q2⟩
    have c0 : w.cell? ⟨p, 0, none⟩ = some (.slice A s.rest.length c) := hV.cell 0
    by_cases hlt : s.rest.length < n
    · have e2 : otake s n = ([], ofail s 2) := by unfold otake ofail; rw [if_neg (by omega), if_pos hlt, if_pos he]
      have Fl := fun w1 (b : Own B (Rdr p s vs * R) w1) hB => rfail_any p s vs B R w1 hB 2 b
      have hlt' : (s.rest.length : Int) < (n : Int) := by omega
      have HO := Lib.hid hO
      rw [e2]
      rw [he] at E
      clear hV hO e2
      generalize s.rest.length = L at *
      go_enter Try.func48, Try.ntmps48
      go_wp2_with fail
      refine E.mono ?_
      rintro e w1 ⟨rfl, rfl⟩
      go_wp2_with fail
      refine (Fl _ HO.out hB).mono ?_
      rintro e w2 ⟨rfl, o2, b2⟩
      obtain ⟨q, o2⟩ := o2.hex
      have o3 := hnil o2
      clear o2
      go_wp2
      go_ret
      exact ⟨_, rfl, o3, b2⟩
    · have hle : n ≤ s.rest.length := by omega
      have e2 : otake s n = (s.rest.take n, ⟨s.rest.drop n, 0⟩) := by unfold otake; rw [if_neg (by omega), if_neg hlt]
      have z0 := hV.unfrozen 0
      have s0 := hV.set hB 0 (.slice (if c = n then A else A.map (fun x => x.add n)) (s.rest.length - n) (c - n))
      have b0 := hV.below_set 0 (.slice (if c = n then A else A.map (fun x => x.add n)) (s.rest.length - n) (c - n))
      rw [e2]
      rw [he] at E s0
      have o3 : Own B (Rdr p ⟨s.rest.drop n, 0⟩ ((.slice A n n, s.rest.take n) :: vs) * R) (w.setCell ⟨p, 0, none⟩ (.slice (if c = n then A else A.map (fun x => x.add n)) (s.rest.length - n) (c - n))) :=
        Own.to_hex (.slice (if c = n then A else A.map (fun x => x.add n)) (s.rest.length - n) (c - n)) ((s0.assoc').mono (C := RdrV _ p ⟨s.rest.drop n, 0⟩ ((.slice A n n, s.rest.take n) :: vs) * R) fun w F ⟨F1, F2, hd, h1, h2, ⟨G1, G2, gd, g1, g2, hb, ha⟩, hr⟩ => ⟨F1, F2, hd, h1, h2, ⟨G1, G2, gd, g1, g2, hb, fun x hx => by
          have h0 := ha _ List.mem_cons_self
          rcases List.mem_cons.1 hx with rfl | hx
          · exact h0.left n hle
          rcases List.mem_cons.1 hx with rfl | hx
          · exact h0.taken n hle
          · exact ha _ (List.mem_cons_of_mem _ hx)⟩, hr⟩)
      have hle' : ¬ (s.rest.length : Int) < (n : Int) := by omega
      have m1 : (n : Int) ≤ (s.rest.length : Int) := by omega
      have m2 : (s.rest.length : Int) ≤ (c : Int) := by omega
      have m3 : (n : Int) ≤ (c : Int) := by omega
      have m4 : (0 : Int) ≤ (n : Int) := by omega
      clear hV hO e2 s0
      generalize s.rest.length = L at *
      obtain ⟨A2, hA2⟩ : ∃ A2, (if c = n then A else A.map (fun x => x.add n)) = A2 := ⟨_, rfl⟩
      rw [hA2] at o3 b0
      go_enter Try.func48, Try.ntmps48
      go_wp2_with fail
      refine E.mono ?_
      rintro e w1 ⟨rfl, rfl⟩
      go_wp2
      go_ret
      exact ⟨_, rfl, o3, b0⟩
  · have e2 : otake s n = ([], s) := otake_err he n
    have he' : (s.err == 0) = false := by simpa using he
    have o3 := hnil hV.assoc'
    rw [e2]
    clear hV hO e2
    generalize s.err = q at E he he'
    go_enter Try.func48, Try.ntmps48
    go_wp2_with fail
    refine E.mono ?_
    rintro e w1 ⟨rfl, rfl⟩
    go_wp2
    go_ret
    exact ⟨_, rfl, o3, Below.refl _ _⟩
end Go.Proofs.Ytedcficjmogohaa

/- A range over a function, told by what is owned: the loop's own blocks are no cells, so what is owned abides them. -/
namespace Go.Proofs.Ytedcficjmogohaa
set_option linter.unusedVariables false
set_option linter.unusedSimpArgs false
set_option maxRecDepth 100000
open Go.RowKit

def CelB (n : Nat) (w : World) (k : Nat) : Prop := k < n ∨ ∃ o : Obj, w.heap[k]? = some o ∧ o.isCells = true
/-- What it says hangs, from block n on, on blocks of cells alone. -/
class Cel (n : Nat) (A : HP) : Prop where
  cut : ∀ (w : World) (F : Nat → Prop), A w F → A w (fun k => F k ∧ CelB n w k)
instance Cel.emp {n : Nat} : Cel n Emp := ⟨fun _ _ h => h⟩
instance Cel.fact {n : Nat} {p : Prop} : Cel n (Fact p) := ⟨fun _ _ h => h⟩
instance Cel.hex {n : Nat} {α : Type} {A : α → HP} [h : ∀ x, Cel n (A x)] : Cel n (Hex A) := ⟨fun w F ⟨x, hx⟩ => ⟨x, (h x).cut w F hx⟩⟩
instance Cel.bk {n g : Nat} {t : TypeId} {cs : Array Value} : Cel n (Bk g t cs) := ⟨fun _ _ ⟨hF, hg⟩ => ⟨⟨hF, .inr ⟨_, hg, rfl⟩⟩, hg⟩⟩
instance Cel.rw {m : Nat} {e : TypeId} {size : Nat} {v : Value} {n : Nat} {xs : List Value} : Cel m (Rw e size v n xs) := ⟨fun w F ⟨ho, hF⟩ => ⟨ho, fun k hk => ⟨hF k hk, by
  rcases ho.2 with ⟨rfl, _⟩ | ⟨g, cap, cur, rfl, _, hg, _⟩
  · simp [Value.ownBlock] at hk
  · simp [Value.ownBlock] at hk
    subst hk
    exact .inr ⟨_, hg, rfl⟩⟩⟩⟩
instance Cel.sep {n : Nat} {A C : HP} [a : Cel n A] [c : Cel n C] : Cel n (A * C) := ⟨fun w F ⟨F1, F2, hd, h1, h2, ha, hc⟩ =>
  ⟨fun k => F1 k ∧ CelB n w k, fun k => F2 k ∧ CelB n w k, fun k hk hk' => hd k hk.1 hk'.1, fun k hk => ⟨h1 k hk.1, hk.2⟩, fun k hk => ⟨h2 k hk.1, hk.2⟩, a.cut w F1 ha, c.cut w F2 hc⟩⟩

/-- These blocks are as they were. -/
def Same (s : Nat → Prop) (W : World) : HP := fun w F => ∀ k, s k → F k ∧ w.heap[k]? = W.heap[k]?
instance Loc.same {B : Nat} {s : Nat → Prop} {W : World} : Loc B (Same s W) where
  keep := fun w w' F h _ hs k hk => ⟨(hs k hk).1, (h k (hs k hk).1).trans (hs k hk).2⟩
  up := fun w F F' h hs k hk => ⟨h k (hs k hk).1, (hs k hk).2⟩
theorem Cel.same {n : Nat} {s : Nat → Prop} {W : World} (hs : ∀ k, s k → k < n) : Cel n (Same s W) := ⟨fun w F h k hk => ⟨⟨(h k hk).1, .inl (hs k hk)⟩, (h k hk).2⟩⟩
/-- All that is no cells, from n on, as it was. -/
def Non (n : Nat) (W : World) : HP := fun w F => ∀ k o, n ≤ k → W.heap[k]? = some o → o.isCells = false → F k ∧ w.heap[k]? = some o
instance Loc.non {B n : Nat} {W : World} : Loc B (Non n W) where
  keep := fun w w' F h _ hs k o hn ho hc => ⟨(hs k o hn ho hc).1, (h k (hs k o hn ho hc).1).trans (hs k o hn ho hc).2⟩
  up := fun w F F' h hs k o hn ho hc => ⟨h k (hs k o hn ho hc).1, (hs k o hn ho hc).2⟩
theorem Own.non {B n : Nat} {A : HP} [c : Cel n A] {W : World} (h : Own B A W) (hn : B ≤ n) : Own B (A * Non n W) W := by
  obtain ⟨F, hf, ha⟩ := h
  refine ⟨fun k => (F k ∧ CelB n W k) ∨ (n ≤ k ∧ ∃ o, W.heap[k]? = some o ∧ o.isCells = false), fun k hk => ?_, fun k => F k ∧ CelB n W k, fun k => n ≤ k ∧ ∃ o, W.heap[k]? = some o ∧ o.isCells = false, fun k hk hk' => ?_, fun k hk => .inl hk, fun k hk => .inr hk, c.cut W F ha, fun k o h1 h2 h3 => ⟨⟨h1, o, h2, h3⟩, h2⟩⟩
  · rcases hk with hk | ⟨h1, o, h2, _⟩
    · exact hf k hk.1
    · exact ⟨by omega, (Array.getElem?_eq_some_iff.1 h2).1⟩
  · obtain ⟨hn', o', h3, h4⟩ := hk'
    rcases hk.2 with h | ⟨o, h1, h2⟩
    · omega
    rw [h1] at h3
    cases h3
    rw [h2] at h4
    cases h4
/-- The deferred calls' block of a range over a function. -/
def Dk (D : Nat) : HP := fun w F => F D ∧ w.heap[D]? = some (.deferred (some []))
instance Loc.dk {B D : Nat} : Loc B (Dk D) where
  keep := fun _ _ _ h _ ⟨hf, hg⟩ => ⟨hf, (h D hf).trans hg⟩
  up := fun _ _ _ h ⟨hf, hg⟩ => ⟨h D hf, hg⟩
theorem Own.dk {B D n : Nat} {A : HP} [c : Cel n A] {W : World} (h : Own B A W) (hB : B ≤ D) (hn : n ≤ D) (hD : W.heap[D]? = some (.deferred (some []))) : Own B (A * Dk D) W := by
  obtain ⟨F, hf, ha⟩ := h
  refine ⟨fun k => (F k ∧ CelB n W k) ∨ k = D, fun k hk => ?_, fun k => F k ∧ CelB n W k, fun k => k = D, fun k hk hk' => ?_, fun k hk => .inl hk, fun k hk => .inr hk, c.cut W F ha, rfl, hD⟩
  · rcases hk with hk | rfl
    · exact hf k hk.1
    · exact ⟨hB, (Array.getElem?_eq_some_iff.1 hD).1⟩
  · subst hk'
    rcases hk.2 with h | ⟨o, h1, h2⟩
    · omega
    rw [hD] at h1
    cases h1
    cases h2
/-- A step that turns one block that is no cells. -/
theorem Own.abide {B n : Nat} {A : HP} [c : Cel n A] [Loc B A] {W W' : World} {row : Option Nat} (hB : B ≤ W.heap.size) (hn : B ≤ n) (h : Own B A W) (hg : W.grownBy W' row) (hr : ∀ r, row = some r → n ≤ r ∧ ∃ o : Obj, W.heap[r]? = some o ∧ o.isCells = false) : Own B A W' := by
  obtain ⟨F, hf, ha⟩ := h
  refine ⟨fun k => F k ∧ CelB n W k, fun k hk => ⟨(hf k hk.1).1, Nat.lt_of_lt_of_le (hf k hk.1).2 hg.size⟩, Loc.keep (B := B) W W' _ (fun k hk => hg.block k (hf k hk.1).2 (fun e => ?_)) (fun k hk => hg.block k (by omega) (fun e => ?_)) (c.cut W F ha)⟩
  · obtain ⟨hn', o, h1, h2⟩ := hr k e.symm
    rcases hk.2 with h | ⟨o', h3, h4⟩
    · omega
    rw [h1] at h3
    cases h3
    rw [h2] at h4
    cases h4
  · have := (hr k e.symm).1
    omega

/-- What a round must keep of the memory that the iterator reads: these blocks. -/
def KpS (s : Nat → Prop) (W W' : World) : Prop := ∀ k, s k → W'.heap[k]? = W.heap[k]?
theorem KpS.t {s : Nat → Prop} {A B C : World} (h : KpS s A B) (k : KpS s B C) : KpS s A C := fun i hi => (k i hi).trans (h i hi)
theorem KpS.b {s : Nat → Prop} {w : World} (hs : ∀ k, s k → k < w.heap.size) (W : World) (l : Nat) (o o' : Obj) (hl : w.heap.size ≤ l) (h : W.heap[l]? = some o) (_ : o.isCells = false) (_ : o.isWalk = false) : KpS s W (W.putObj l o') := fun k hk => by
  have := hs k hk
  exact (grownBy_putObj' W l o').block k (by have := (Array.getElem?_eq_some_iff.1 h).1; omega) (by simp; omega)

/-- What a loop leaves alone, set aside: its blocks are kept, and behind the loop it is there again. -/
theorem Own.fix {B : Nat} {A C : HP} [Loc B A] {w : World} (h : Own B (A * C) w) : ∃ s : Nat → Prop, (∀ k, s k → k < w.heap.size) ∧ A w s ∧ Own B (C * Same s w) w ∧
    ∀ (W : World) (C' D : HP), Below B w W → Own B (C' * (Same s w * D)) W → Own B (C' * (A * D)) W := by
  obtain ⟨F, hf, F1, F2, hd, h1, h2, ha, hc⟩ := h
  refine ⟨F1, fun k hk => (hf k (h1 k hk)).2, ha, ⟨F, hf, F2, F1, fun k hk hk' => hd k hk' hk, h2, h1, hc, fun k hk => ⟨hk, rfl⟩⟩, fun W C' D hb hO => ?_⟩
  obtain ⟨G, hg, G1, G2, gd, g1, g2, hC', H1, H2, hd2, k1, k2, hS, hD⟩ := hO
  exact ⟨G, hg, G1, G2, gd, g1, g2, hC', H1, H2, hd2, k1, k2, Loc.up (B := B) W _ H1 (fun k hk => (hS k hk).1) (Loc.keep (B := B) w W _ (fun k hk => (hS k hk).2) (fun k hk => hb.block k hk) ha), hD⟩
/-- How a round may be left. -/
def hpPost {α : Type} (B : Nat) (A : List α → HP) (Ax : Code → List α → HP) (R : HP) (W : World) (xs : List α) : Exit → Act → World → Prop
  | .normal, _, W' => Own B (A xs * R) W' ∧ Below B W W'
  | .ret, _, W' => Own B (Ax .ret xs * R) W' ∧ Below B W W'
  | .exit id, _, W' => Own B (Ax (.exit id) xs * R) W' ∧ Below B W W'
  | .goto t, _, W' => Own B (Ax (.goto t) xs * R) W' ∧ Below B W W'
  | .panic _, _, _ => False
  | .outgrown, _, _ => False

theorem keeps_of {B n : Nat} {s : Nat → Prop} {C : HP} {W W' w0 : World} (hB : B ≤ W.heap.size) (hsz : W.heap.size ≤ W'.heap.size) (h : Own B (C * (Same s w0 * Non n W)) W') : KeepsFrom n W W' := by
  obtain ⟨F, hf, F1, F2, hd, h1, h2, hc, F3, F4, hd', h3, h4, hs, hn⟩ := h
  exact ⟨hsz, fun k o hk ho hc => (hn k o hk ho hc).2⟩

/-- THE RULE: a range over a function, in a call that goes on alone. -/
theorem wp_rangeFunc_hp {α : Type} {P : Program} {g : Operand} {ps : Array Tmp} {assign body : Code} {Q : Exit → Act → World → Prop} {a : Act} {w : World}
    {gf : Nat} {lb : Array Value} (hg : a.eval g = .func (.func gf) #[] lb) (eg : ∀ args w, (callFunc gf args).run P w = .ok (.enter gf args) w)
    {encs : α → Array Value} {S Sp : List α → Prop} {N : Nat} (s : Nat → Prop) (hs : ∀ k, s k → k < w.heap.size) (hseq : SeqStopsK Fence.wide 4 P gf lb encs (KpS s) S Sp N w) (hps : ∀ x, (encs x).size = ps.size)
    (B : Nat) (A : List α → HP) (Ax : Code → List α → HP) [∀ xs, Loc B (A xs)] [∀ xs, Cel w.heap.size (A xs)] [∀ c xs, Loc B (Ax c xs)] [∀ c xs, Cel w.heap.size (Ax c xs)] (hB : B ≤ w.heap.size) (h0 : Own B (A [] * Same s w) w) (fin : α → Array Value → Array Value) (a₁ : α → Act) (ha₁ : ∀ x, a₁ x = { tmps := fin x ((ps.zip (encs x)).foldl (fun t (p, v) => t.setIfInBounds p v) a.tmps), defers := [] })
    (hassign : ∀ (l : Nat) (x : α) (W : World) (K : Act → World → Prop), K (a₁ x) W →
      assign.wpIn (Fence.wide.inRound l) 3 P (Exit.then K (fun _ _ _ => False)) { tmps := (ps.zip (encs x)).foldl (fun t (p, v) => t.setIfInBounds p v) a.tmps, defers := [] } W)
    (hbody : ∀ (l : Nat) (pre : List α) (x : α) (W : World) (R : HP) [Loc B R], B ≤ W.heap.size → Below B w W → Own B (A pre * R) W → pre.length < N → body.wpIn (Fence.wide.inRound l) 3 P (hpPost B A Ax R W (pre ++ [x])) (a₁ x) W)
    (hdone : ∀ (D : Nat) (xs : List α) (W : World), S xs → B ≤ W.heap.size → Below B w W → Own B (A xs * (Same s w * Dk D)) W → Q .normal { a with defers := { target := .collected D, args := #[] } :: a.defers } W)
    (hstop : ∀ (D : Nat) (c : Code) (pre : List α) (W : World), Sp pre → B ≤ W.heap.size → Below B w W → Own B (Ax c pre * (Same s w * Dk D)) W → c.wp P Q { a with defers := { target := .collected D, args := #[] } :: a.defers } W) :
    (Code.rangeFunc g ps assign body).wp P Q a w := by
  have cs : Cel w.heap.size (Same s w) := Cel.same hs
  refine (wpIn_wide (n := 5)).1 ?_
  refine wpIn_rangeFunc_ownG (F := Fence.wide) (n := 5) rfl (by omega) hg trivial eg hseq KpS.t (KpS.b hs) (Below.refl _ _) hps
    (fun pre W => (Own B (A pre * Same s w) W ∧ B ≤ W.heap.size) ∧ Below B w W) (fun c pre W => (Own B (Ax c pre * Same s w) W ∧ B ≤ W.heap.size) ∧ Below B w W)
    (OwnFrom.and (fun _ _ _ _ hs hg hr => ⟨hs.1.abide hs.2 hB hg hr, Nat.le_trans hs.2 hg.size⟩) (ownFrom_below hB hB))
    (fun c => OwnFrom.and (fun _ _ _ _ hs hg hr => ⟨hs.1.abide hs.2 hB hg hr, Nat.le_trans hs.2 hg.size⟩) (ownFrom_below hB hB))
    ⟨⟨h0, hB⟩, Below.refl _ _⟩ a₁ hassign ?_ ?_ ?_
  · intro l pre x W ⟨⟨hO, hBW⟩, hb⟩ hN
    have hO2 : Own B (A pre * (Same s w * Non w.heap.size W)) W := (hO.non (n := w.heap.size) hB).assoc
    have hsame : ∀ k, s k → W.heap[k]? = w.heap[k]? := by
      obtain ⟨F, hf, F1, F2, hd, h1, h2, hc, hs⟩ := hO
      exact fun k hk => (hs k hk).2
    refine Code.wpIn_mono (fun e a' W' h => ?_) (hbody l pre x W (Same s w * Non w.heap.size W) hBW hb hO2 hN)
    have fin : ∀ (C : HP), Own B (C * (Same s w * Non w.heap.size W)) W' → Below B W W' → KeepsFrom w.heap.size W W' ∧ KpS s W W' ∧ (Own B (C * Same s w) W' ∧ B ≤ W'.heap.size) ∧ Below B w W' := by
      intro C h hb'
      refine ⟨keeps_of hBW hb'.size h, ?_, ⟨h.assoc'.left, Nat.le_trans hBW hb'.size⟩, hb.trans hb'⟩
      obtain ⟨F, hf, F1, F2, hd, h1, h2, hc, F3, F4, hd', h3, h4, hs', hn⟩ := h
      exact fun k hk => (hs' k hk).2.trans (hsame k hk).symm
    cases e with
    | normal => obtain ⟨k1, k2, k3, k4⟩ := fin _ h.1 h.2; exact ⟨k1, k2, k3, k4⟩
    | ret => obtain ⟨k1, k2, k3, k4⟩ := fin _ h.1 h.2; exact ⟨k1, k3, k4⟩
    | exit id => obtain ⟨k1, k2, k3, k4⟩ := fin _ h.1 h.2; exact ⟨k1, k3, k4⟩
    | goto t => obtain ⟨k1, k2, k3, k4⟩ := fin _ h.1 h.2; exact ⟨k1, k3, k4⟩
    | panic c => exact h
    | outgrown => exact h
  · intro D xs W hD hS ⟨⟨hO, hBW⟩, hb⟩ hK
    exact hdone D xs W hS hBW hb ((hO.dk (n := w.heap.size) (Nat.le_trans hB hD) hD hK).assoc)
  · intro D c pre W hD hS ⟨⟨hO, hBW⟩, hb⟩ hK
    exact wpIn_wide.2 (hstop D c pre W hS hBW hb ((hO.dk (n := w.heap.size) (Nat.le_trans hB hD) hD hK).assoc))

/-- The call's end behind one loop: the deferred calls' block is struck. -/
theorem ret_hp {n D B : Nat} {P : Program} {fn : Func} {R : Ending → World → Prop} {a : Act} {W : World} {A : HP} [Loc B A] {v : Value} (hB : B ≤ W.heap.size) (hd : a.defers = [{ target := .collected D, args := #[] }]) (hO : Own B (Dk D * A) W)
    (hres : ∀ W', Own B A W' → (results fn a.tmps).run P W' = .ok v W') (hR : ∀ W', Own B A W' → Below B W W' → R (.returned v) W') : bodyPostM Fence.wide n P fn R .ret a W := by
  have hK : W.heap[D]? = some (.deferred (some [])) := by
    obtain ⟨F, hf, F1, F2, hd, h1, h2, hc, hs⟩ := hO
    exact hc.2
  have hBD : B ≤ D := by
    obtain ⟨F, hf, F1, F2, hd, h1, h2, hc, hs⟩ := hO
    exact (hf D (h1 D hc.1)).1
  have hg := grownBy_putObj' W D (.deferred none)
  have hO' : Own B A (W.putObj D (.deferred none)) := (Own.turn (A' := Emp) hB hO hg.size (fun F hF ⟨hFD, _⟩ => ⟨fun _ => False, fun _ h => h.elim, trivial, fun k hk hn => hg.block k hk (fun e => hn (by injection e with e; exact e ▸ hFD))⟩)).right
  have hb : Below B W (W.putObj D (.deferred none)) := (Below.refl B W).grown hg hB (fun k e => by cases e; exact hBD)
  unfold bodyPostM
  simp only [hd]
  exact ⟨by simp, .inl ⟨_, _, rfl, run_takeDeferred hK, _, hres _ hO', hR _ hO' hb⟩⟩
end Go.Proofs.Ytedcficjmogohaa
