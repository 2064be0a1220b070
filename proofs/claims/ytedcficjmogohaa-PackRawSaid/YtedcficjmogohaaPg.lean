/- Texts of one proof, merged: XLc XM5 XM6 XM7 XM8 XM9 XMa XMb XMc. -/
import Derived.Test.YtedcficjmogohaaPf
/- What was put is taken: the steps of a law, by the law of one bit. -/
namespace Go.Proofs.Ytedcficjmogohaa
set_option linter.unusedVariables false
set_option linter.unusedSimpArgs false
set_option maxRecDepth 100000
open Go.RowKit

def rOf (s : WS) : RW := ⟨s.told, s.low % 4294967296, s.width⟩
theorem rel_rOf (s : WS) : Rel s (rOf s) := ⟨rfl, rfl, rfl⟩
theorem rel_eq {s : WS} {r : RW} (h : Rel s r) : rOf s = r := by
  obtain ⟨out, low, width⟩ := r
  obtain ⟨h1, h2, h3⟩ := h
  simp only at h1 h2 h3
  unfold rOf
  rw [h1, h2, h3]

structure WS.gd (s : WS) (room : Int) : Prop where
  live : s.live room
  calm : s.calm
  good : (rOf s).good room
theorem WS.gd.less {s : WS} {r r' : Int} (h : s.gd r) (hr : r' ≤ r) : s.gd r' :=
  ⟨h.live.less hr, h.calm, ⟨⟨h.good.ok.bytes, by have := h.good.ok.len; omega, h.good.ok.low0, h.good.ok.low1, h.good.ok.width0, h.good.ok.width1, h.good.ok.sum⟩, h.good.fit⟩⟩
theorem putS_gd {s : WS} {b : Int} (bit : Int) {room : Int} (hr : 0 ≤ room) (g : s.gd (room + 1)) (b0 : 65536 ≤ b) (b1 : b + 65536 ≤ s.width) : (putS s b bit).gd room ∧ rOf (putS s b bit) = rput (rOf s) b bit := by
  obtain ⟨h1, h2⟩ := put_rel bit g.live g.calm (rel_rOf s) b0 b1
  have e := rel_eq h1
  exact ⟨⟨putS_live bit hr g.live b0 b1, h2, by rw [e]; exact put_good bit g.good b0 b1⟩, e⟩
theorem begin0_gd (r : Int) (h0 : 0 ≤ r) (h1 : r ≤ 1099511627776) : begin0.gd r := by
  refine ⟨begin0_live r h1 h0, begin_rel.2, ?_⟩
  rw [rel_eq begin_rel.1]
  exact ⟨⟨by intro c hc; simp at hc, by show ((0 : Nat) : Int) + r ≤ _; omega, by show (0 : Int) ≤ 0; omega, by show (0 : Int) < 4294967296; omega, by show (0 : Int) ≤ 4294967295; omega, by show (4294967295 : Int) < 4294967296; omega, by show (0 : Int) + 4294967295 < 8589934592; omega⟩, by show (0 : Int) * 4294967296 + 0 + 4294967295 ≤ (256 : Int) ^ 4; decide⟩

/-- The number that bits make, behind a. -/
def val : Nat → List Int → Nat
  | a, [] => a
  | a, b :: l => val (2 * a + b.toNat) l
def bitsL (l : List Int) : Prop := ∀ b ∈ l, b = 0 ∨ b = 1
theorem bitsOf_bits (n : Int) (m : Nat) : bitsL (bitsOf n m) := by
  intro b hb
  obtain ⟨k, _, rfl⟩ := List.mem_map.1 hb
  exact bitOf_01 n k
theorem mod_pow_succ (n : Int) (m : Nat) : n % 2 ^ (m + 1) = bitOf n m * 2 ^ m + n % 2 ^ m := by
  have hp : (0 : Int) < 2 ^ m := by
    have : ∀ k : Nat, (0 : Int) < 2 ^ k := fun k => by
      induction k with
      | zero => decide
      | succ k ih => rw [Int.pow_succ]; omega
    exact this m
  have h1 := Int.emod_nonneg n (Int.ne_of_gt hp)
  have h2 := Int.emod_lt_of_pos n hp
  have h3 := Int.mul_ediv_add_emod n (2 ^ m)
  have hb : bitOf n m = n / 2 ^ m % 2 := rfl
  have h4 : n / 2 ^ m = 2 * (n / 2 ^ m / 2) + bitOf n m := by rw [hb]; omega
  have hb01 := bitOf_01 n m
  rw [Int.pow_succ]
  generalize n / 2 ^ m / 2 = z at h4
  generalize bitOf n m = b at h4 hb01 ⊢
  generalize hq : n / 2 ^ m = q at h3 h4
  generalize hy : n % 2 ^ m = y at h1 h2 h3 ⊢
  generalize (2 : Int) ^ m = P at hp h1 h2 h3 ⊢
  have e : n = (b * P + y) + (P * 2) * z := by
    rw [← h3, h4, Int.mul_add, Int.mul_comm P b, ← Int.mul_assoc, Int.mul_comm]
    have : P * 2 * z = z * (P * 2) := Int.mul_comm _ _
    omega
  rw [e, Int.add_mul_emod_self_left]
  rcases hb01 with rfl | rfl
  · exact Int.emod_eq_of_lt (by omega) (by omega)
  · exact Int.emod_eq_of_lt (by omega) (by omega)
theorem val_bitsOf (n : Int) : ∀ (m a : Nat), ((val a (bitsOf n m) : Nat) : Int) = (a : Int) * 2 ^ m + n % 2 ^ m
  | 0, a => by
    show ((a : Nat) : Int) = _
    rw [Int.pow_zero]
    omega
  | m + 1, a => by
    rw [bitsOf_succ]
    show ((val (2 * a + (bitOf n m).toNat) (bitsOf n m) : Nat) : Int) = _
    rw [val_bitsOf n m, mod_pow_succ, Int.pow_succ]
    have hb := bitOf_01 n m
    generalize bitOf n m = b at hb ⊢
    generalize n % 2 ^ m = y
    generalize (2 : Int) ^ m = P
    have e : ((2 * a + b.toNat : Nat) : Int) = 2 * (a : Int) + b := by omega
    rw [e, Int.add_mul]
    have : (a : Int) * (P * 2) = 2 * (a : Int) * P := by rw [Int.mul_comm P 2, ← Int.mul_assoc, Int.mul_comm (a : Int) 2]
    omega

theorem ev_in {s : WS} {room : Int} (h : s.gd room) : 65536 ≤ s.width / 2 ∧ s.width / 2 + 65536 ≤ s.width := by have := h.live.wide; omega

theorem even_gd : ∀ (l : List Int) (s : WS) (room : Int), 0 ≤ room → s.gd (room + l.length) → (evenS s l).gd room
  | [], s, room, _, h => by simpa [evenS] using h
  | b :: l, s, room, hr, h => by
    have e : room + ((b :: l).length : Int) = (room + l.length) + 1 := by simp; omega
    rw [e] at h
    exact even_gd l _ room hr (putS_gd b (by omega) h (ev_in h).1 (ev_in h).2).1
theorem even_pt {rT : RW} : ∀ (l : List Int) (s : WS) (room : Int), 0 ≤ room → s.gd (room + l.length) → Pt (rOf (evenS s l)) rT → Pt (rOf s) rT
  | [], s, room, _, _, h => h
  | b :: l, s, room, hr, g, h => by
    have e : room + ((b :: l).length : Int) = (room + l.length) + 1 := by simp; omega
    rw [e] at g
    obtain ⟨g1, e1⟩ := putS_gd b (by omega) g (ev_in g).1 (ev_in g).2
    have := even_pt l _ room hr g1 h
    rw [e1] at this
    exact pt_back b g.good (ev_in g).1 (ev_in g).2 this
theorem even_dec {rT : RW} {roomT : Int} (gT : rT.ok roomT) : ∀ (l : List Int) (s : WS) (q : RS) (a : Nat) (room : Int), 0 ≤ room → bitsL l → s.gd (room + l.length) → Pt (rOf (evenS s l)) rT → Dec (rOf s) q (rend rT) →
    (rEven l.length q a).1 = val a l ∧ Dec (rOf (evenS s l)) (rEven l.length q a).2 (rend rT)
  | [], s, q, a, room, _, _, _, _, hd => ⟨rfl, hd⟩
  | b :: l, s, q, a, room, hr, hb, g, hp, hd => by
    have e : room + ((b :: l).length : Int) = (room + l.length) + 1 := by simp; omega
    rw [e] at g
    obtain ⟨g1, e1⟩ := putS_gd b (by omega) g (ev_in g).1 (ev_in g).2
    have hp1 := even_pt l _ room hr g1 hp
    rw [e1] at hp1
    have hw : q.width = s.width := hd.width
    obtain ⟨h1, h2⟩ := dec_step g.good gT (ev_in g).1 (ev_in g).2 (hb b List.mem_cons_self) hp1 hd
    rw [← e1] at h2
    have := even_dec gT l _ (takeS q (s.width / 2)) (2 * a + b.toNat) room hr (fun x hx => hb x (List.mem_cons_of_mem _ hx)) g1 hp h2
    show (rEven l.length (takeS q (q.width / 2)) (2 * a + (takeBit q (q.width / 2)).toNat)).1 = _ ∧ Dec _ (rEven l.length (takeS q (q.width / 2)) (2 * a + (takeBit q (q.width / 2)).toNat)).2 _
    rw [hw, h1]
    exact this

theorem tree_gd : ∀ (l : List Int) (s : WS) (cl : List Int) (a : Nat) (room : Int), 0 ≤ room → chOk cl → s.gd (room + l.length) → (treeS s cl a l).1.gd room ∧ chOk (treeS s cl a l).2 ∧ (treeS s cl a l).2.length = cl.length
  | [], s, cl, a, room, _, hc, h => ⟨by simpa [treeS] using h, hc, rfl⟩
  | b :: l, s, cl, a, room, hr, hc, h => by
    have e : room + ((b :: l).length : Int) = (room + l.length) + 1 := by simp; omega
    rw [e] at h
    have hb := bitBound_in h.live (chOk_get hc a)
    have h2 : chOk (cl.set a (sawN (cl.getD a 0) b)) := chOk_set hc _ _ (sawN_ok _ _ (chOk_get hc a))
    obtain ⟨x, y, z⟩ := tree_gd l _ _ (2 * a + b.toNat) room hr h2 (putS_gd b (by omega) h hb.1 hb.2).1
    exact ⟨x, y, by rw [show treeS s cl a (b :: l) = treeS _ _ _ l from rfl, z]; simp⟩
theorem tree_pt {rT : RW} : ∀ (l : List Int) (s : WS) (cl : List Int) (a : Nat) (room : Int), 0 ≤ room → chOk cl → s.gd (room + l.length) → Pt (rOf (treeS s cl a l).1) rT → Pt (rOf s) rT
  | [], _, _, _, _, _, _, _, h => h
  | b :: l, s, cl, a, room, hr, hc, g, h => by
    have e : room + ((b :: l).length : Int) = (room + l.length) + 1 := by simp; omega
    rw [e] at g
    have hb := bitBound_in g.live (chOk_get hc a)
    have h2 : chOk (cl.set a (sawN (cl.getD a 0) b)) := chOk_set hc _ _ (sawN_ok _ _ (chOk_get hc a))
    obtain ⟨g1, e1⟩ := putS_gd b (by omega) g hb.1 hb.2
    have := tree_pt l _ _ (2 * a + b.toNat) room hr h2 g1 h
    rw [e1] at this
    exact pt_back b g.good hb.1 hb.2 this
theorem tree_dec {rT : RW} {roomT : Int} (gT : rT.ok roomT) : ∀ (l : List Int) (s : WS) (q : RS) (cl : List Int) (a : Nat) (room : Int), 0 ≤ room → bitsL l → chOk cl → s.gd (room + l.length) → Pt (rOf (treeS s cl a l).1) rT → Dec (rOf s) q (rend rT) →
    (rTree l.length q cl a).1 = val a l ∧ (rTree l.length q cl a).2.2 = (treeS s cl a l).2 ∧ Dec (rOf (treeS s cl a l).1) (rTree l.length q cl a).2.1 (rend rT)
  | [], s, q, cl, a, room, _, _, _, _, _, hd => ⟨rfl, rfl, hd⟩
  | b :: l, s, q, cl, a, room, hr, hb, hc, g, hp, hd => by
    have e : room + ((b :: l).length : Int) = (room + l.length) + 1 := by simp; omega
    rw [e] at g
    have hbd := bitBound_in g.live (chOk_get hc a)
    have h2 : chOk (cl.set a (sawN (cl.getD a 0) b)) := chOk_set hc _ _ (sawN_ok _ _ (chOk_get hc a))
    obtain ⟨g1, e1⟩ := putS_gd b (by omega) g hbd.1 hbd.2
    have hp1 := tree_pt l _ _ (2 * a + b.toNat) room hr h2 g1 hp
    rw [e1] at hp1
    have hw : rBound q (cl.getD a 0) = bitBound s (cl.getD a 0) := by unfold rBound bitBound; rw [show q.width = s.width from hd.width]
    obtain ⟨k1, k2⟩ := dec_step g.good gT hbd.1 hbd.2 (hb b List.mem_cons_self) hp1 hd
    rw [← e1] at k2
    have := tree_dec gT l _ (takeS q (bitBound s (cl.getD a 0))) _ (2 * a + b.toNat) room hr (fun x hx => hb x (List.mem_cons_of_mem _ hx)) h2 g1 hp k2
    show (rTree l.length (takeS q (rBound q (cl.getD a 0))) (cl.set a (sawN (cl.getD a 0) (takeBit q (rBound q (cl.getD a 0))))) (2 * a + (takeBit q (rBound q (cl.getD a 0))).toNat)).1 = _ ∧ (rTree l.length (takeS q (rBound q (cl.getD a 0))) (cl.set a (sawN (cl.getD a 0) (takeBit q (rBound q (cl.getD a 0))))) (2 * a + (takeBit q (rBound q (cl.getD a 0))).toNat)).2.2 = _ ∧ Dec _ (rTree l.length (takeS q (rBound q (cl.getD a 0))) (cl.set a (sawN (cl.getD a 0) (takeBit q (rBound q (cl.getD a 0))))) (2 * a + (takeBit q (rBound q (cl.getD a 0))).toNat)).2.1 _
    rw [hw, k1]
    exact this

/-! the law's steps -/
structure SX where
  s : WS
  cl : List Int
  tl : List Int
def mayD (d : Dn) : Prop := (d.verb = 0 ∧ 0 ≤ d.k ∧ d.k < 8 ∧ 0 ≤ d.n ∧ d.n < 2) ∨ (d.verb = 1 ∧ 0 ≤ d.bits ∧ d.bits ≤ 32) ∨ (d.verb = 2 ∧ 0 ≤ d.bits ∧ d.bits ≤ 8)
instance (d : Dn) : Decidable (mayD d) := by unfold mayD; infer_instance
def stepX (x : SX) (d : Dn) : SX :=
  if mayD d then
    if d.verb = 0 then ⟨putS x.s (bitBound x.s (x.cl.getD d.k.toNat 0)) d.n, x.cl.set d.k.toNat (sawN (x.cl.getD d.k.toNat 0) d.n), x.tl⟩
    else if d.verb = 1 then ⟨evenS x.s (bitsOf d.n d.bits.toNat), x.cl, x.tl⟩
    else ⟨(treeS x.s x.tl 1 (bitsOf d.n d.bits.toNat)).1, x.cl, (treeS x.s x.tl 1 (bitsOf d.n d.bits.toNat)).2⟩
  else x
structure SX.ok (x : SX) (room : Int) : Prop where
  gd : x.s.gd room
  c : chOk x.cl
  cn : x.cl.length = 8
  t : chOk x.tl
  tn : x.tl.length = 256
theorem SX.ok.less {x : SX} {r r' : Int} (h : x.ok r) (hr : r' ≤ r) : x.ok r' := ⟨h.gd.less hr, h.c, h.cn, h.t, h.tn⟩
theorem step_ok {x : SX} {d : Dn} {room : Int} (hr : 0 ≤ room) (h : x.ok (room + 32)) : (stepX x d).ok room := by
  unfold stepX
  split
  · rename_i hm
    split
    · have hb := bitBound_in h.gd.live (chOk_get h.c d.k.toNat)
      exact ⟨(putS_gd d.n hr (h.gd.less (by omega)) hb.1 hb.2).1, chOk_set h.c _ _ (sawN_ok _ _ (chOk_get h.c _)), by rw [List.length_set]; exact h.cn, h.t, h.tn⟩
    · split
      · exact ⟨even_gd _ _ _ hr (h.gd.less (by rw [bitsOf_len]; unfold mayD at hm; omega)), h.c, h.cn, h.t, h.tn⟩
      · obtain ⟨a, b, c⟩ := tree_gd (bitsOf d.n d.bits.toNat) x.s x.tl 1 room hr h.t (h.gd.less (by rw [bitsOf_len]; unfold mayD at hm; omega))
        exact ⟨a, h.c, h.cn, b, by rw [c]; exact h.tn⟩
  · exact h.less (by omega)
theorem step_pt {x : SX} {d : Dn} {room : Int} {rT : RW} (hr : 0 ≤ room) (h : x.ok (room + 32)) (hp : Pt (rOf (stepX x d).s) rT) : Pt (rOf x.s) rT := by
  unfold stepX at hp
  split at hp
  · rename_i hm
    split at hp
    · have hb := bitBound_in h.gd.live (chOk_get h.c d.k.toNat)
      obtain ⟨g1, e1⟩ := putS_gd d.n hr (h.gd.less (by omega)) hb.1 hb.2
      rw [e1] at hp
      exact pt_back d.n (h.gd.less (show room + 1 ≤ room + 32 by omega)).good hb.1 hb.2 hp
    · split at hp
      · exact even_pt _ _ room hr (h.gd.less (by rw [bitsOf_len]; unfold mayD at hm; omega)) hp
      · exact tree_pt _ _ _ _ room hr h.t (h.gd.less (by rw [bitsOf_len]; unfold mayD at hm; omega)) hp
  · exact hp
theorem run_ok : ∀ (l : List Dn) (x : SX) (room : Int), 0 ≤ room → x.ok (room + 32 * (l.length : Int)) → (l.foldl stepX x).ok room
  | [], x, room, _, h => by simpa using h
  | d :: l, x, room, hr, h => run_ok l _ room hr (step_ok (by omega) (h.less (by simp; omega)))
theorem run_pt {rT : RW} : ∀ (l : List Dn) (x : SX) (room : Int), 0 ≤ room → x.ok (room + 32 * (l.length : Int)) → Pt (rOf (l.foldl stepX x).s) rT → Pt (rOf x.s) rT
  | [], x, room, _, _, h => h
  | d :: l, x, room, hr, h, hp => by
    have h1 : x.ok (room + 32 * (l.length : Int) + 32) := h.less (by simp; omega)
    exact step_pt (by omega) h1 (run_pt l _ room hr (step_ok (by omega) h1) hp)

/-- A reader of the end's bytes stands where the writer began. -/
theorem open_dec {rT : RW} {room : Int} (ok : rT.ok room) : Dec ⟨[], 0, 4294967295⟩ (openS (rend rT)) (rend rT) := by
  have hb : bytesOk (rend rT) := by
    intro c hc
    have h0 := ok.low0
    have h1 := ok.low1
    rcases List.mem_append.1 hc with h | h
    · exact ok.bytes c h
    · simp at h; omega
  have hlen : (rend rT).length = rT.out.length + 4 := by simp [rend]
  generalize rend rT = fb at hb hlen ⊢
  match fb, hlen with
  | a :: b :: c :: d :: t, _ =>
    have ha := hb a (by simp)
    have hb' := hb b (by simp)
    have hc' := hb c (by simp)
    have hd' := hb d (by simp)
    have e : openS (a :: b :: c :: d :: t) = ⟨t, a * 16777216 + b * 65536 + c * 256 + d, 4294967295, 0⟩ := by
      show (⟨t, (((0 * 256 % 18446744073709551616 + a) * 256 % 18446744073709551616 + b) * 256 % 18446744073709551616 + c) * 256 % 18446744073709551616 + d, 4294967295, 0⟩ : RS) = _
      have : (((0 * 256 % 18446744073709551616 + a) * 256 % 18446744073709551616 + b) * 256 % 18446744073709551616 + c) * 256 % 18446744073709551616 + d = a * 16777216 + b * 65536 + c * 256 + d := by omega
      rw [this]
    have hl := openS_live hb
    rw [e] at hl ⊢
    refine ⟨⟨[a, b, c, d], rfl, rfl, ?_⟩, rfl, rfl, hl⟩
    show d + 256 * (c + 256 * (b + 256 * (a + 256 * 0))) = (0 * 4294967296 + 0) + (a * 16777216 + b * 65536 + c * 256 + d)
    omega
theorem dec_end {r : RW} {q : RS} (h : Dec r q (rend r)) : q.rem = [] := by
  obtain ⟨pre, e1, e2, _⟩ := h.pre
  have hlen : (rend r).length = r.out.length + 4 := by simp [rend]
  rw [e1, List.length_append] at hlen
  exact List.eq_nil_of_length_eq_zero (by omega)
end Go.Proofs.Ytedcficjmogohaa

/- What put of pack's model tells: plain. -/
namespace Go.Proofs.Ytedcficjmogohaa
set_option linter.unusedVariables false
set_option linter.unusedSimpArgs false
set_option maxRecDepth 100000
open Go.RowKit

def kindN (m : MS) : Int := m.kinds.getD m.kind 0
def bitM (s : WS) (m : MS) (b : Int) : WS := putS s (bitBound s (kindN m)) b
def kindsM (m : MS) (b : Int) : List Int := m.kinds.set m.kind (sawN (kindN m) b)
def putLit (s : WS) (m : MS) (lit : UInt8) : WS × MS :=
  ((treeS (bitM s m 0) (m.lits (treeIx m.out)) 1 (bitsOf lit.toNat 8)).1, { m with kinds := kindsM m 0, lits := upd m.lits (treeIx m.out) (treeS (bitM s m 0) (m.lits (treeIx m.out)) 1 (bitsOf lit.toNat 8)).2 })
def lenM (s : WS) (m : MS) (n : Nat) : WS × List Int := treeS (bitM s m 1) m.lens 1 (bitsOf ((n : Int) - 3) 8)
def backM (s : WS) (m : MS) (n bk : Nat) : WS × List Int := treeS (lenM s m n).1 m.backs 1 (bitsOf (lenN (bk - 1)) 4)
def putMatch (s : WS) (m : MS) (n bk : Nat) : WS × MS :=
  (evenS (backM s m n bk).1 (bitsOf ((bk : Int) - 1) (lenN (bk - 1) - 1)), { m with kinds := kindsM m 1, lens := (lenM s m n).2, backs := (backM s m n bk).2 })
def putT (s : WS) (m : MS) (t : Tk) : WS × MS := if t.len = 0 then putLit s m t.lit else putMatch s m t.len.toNat t.back.toNat
theorem bitsOf_len' (n : Int) (m : Nat) : (bitsOf n m).length = m := by simp [bitsOf]
theorem lenN_15 (n : Nat) (h : n < 32768) : lenN n ≤ 15 := by
  unfold lenN
  split
  · omega
  · have : Nat.log2 n < 15 := (Nat.log2_lt (by omega)).2 h
    omega
theorem bitM_gd {s : WS} {m : MS} {room : Int} (b : Int) (hr : 0 ≤ room) (hm : m.ok) (h : s.gd (room + 1)) : (bitM s m b).gd room ∧ chOk (kindsM m b) ∧ (kindsM m b).length = 2 := by
  have hk := chOk_get hm.ckinds m.kind
  have hb := bitBound_in h.live hk
  exact ⟨(putS_gd b hr h hb.1 hb.2).1, chOk_set hm.ckinds _ _ (sawN_ok _ _ hk), by unfold kindsM; rw [List.length_set]; exact hm.kinds⟩
theorem putLit_ok {s : WS} {m : MS} {room : Int} (lit : UInt8) (hr : 0 ≤ room) (hm : m.ok) (h : s.gd (room + 9)) : (putLit s m lit).1.gd room ∧ (putLit s m lit).2.ok := by
  obtain ⟨h1, h2, h3⟩ := bitM_gd 0 (room := room + 8) (by omega) hm (h.less (by omega))
  obtain ⟨k1, k2, k3⟩ := tree_gd (bitsOf lit.toNat 8) (bitM s m 0) (m.lits (treeIx m.out)) 1 room hr (hm.clits _) (h1.less (by rw [bitsOf_len']; omega))
  refine ⟨k1, ⟨h3, fun i => ?_, hm.lens, hm.backs, hm.kind, h2, fun i => ?_, hm.clens, hm.cbacks⟩⟩
  · show (upd m.lits _ _ i).length = 256
    unfold upd; split
    · rw [k3]; exact hm.lits _
    · exact hm.lits _
  · show chOk (upd m.lits _ _ i)
    unfold upd; split
    · exact k2
    · exact hm.clits _
theorem lenM_ok {s : WS} {m : MS} {room : Int} (n : Nat) (hr : 0 ≤ room) (hm : m.ok) (h : s.gd (room + 9)) : (lenM s m n).1.gd room ∧ chOk (lenM s m n).2 ∧ (lenM s m n).2.length = 256 := by
  obtain ⟨h1, _, _⟩ := bitM_gd 1 (room := room + 8) (by omega) hm (h.less (by omega))
  obtain ⟨k1, k2, k3⟩ := tree_gd (bitsOf ((n : Int) - 3) 8) (bitM s m 1) m.lens 1 room hr hm.clens (h1.less (by rw [bitsOf_len']; omega))
  exact ⟨k1, k2, k3.trans hm.lens⟩
theorem backM_ok {s : WS} {m : MS} {room : Int} (n bk : Nat) (hr : 0 ≤ room) (hm : m.ok) (h : s.gd (room + 13)) : (backM s m n bk).1.gd room ∧ chOk (backM s m n bk).2 ∧ (backM s m n bk).2.length = 16 := by
  obtain ⟨h1, _, _⟩ := lenM_ok n (room := room + 4) (by omega) hm (h.less (by omega))
  obtain ⟨k1, k2, k3⟩ := tree_gd (bitsOf (lenN (bk - 1)) 4) (lenM s m n).1 m.backs 1 room hr hm.cbacks (h1.less (by rw [bitsOf_len']; omega))
  exact ⟨k1, k2, k3.trans hm.backs⟩
theorem putMatch_ok {s : WS} {m : MS} {room : Int} (n bk : Nat) (hb : 1 ≤ bk ∧ bk ≤ 32768) (hr : 0 ≤ room) (hm : m.ok) (h : s.gd (room + 28)) : (putMatch s m n bk).1.gd room ∧ (putMatch s m n bk).2.ok := by
  obtain ⟨_, h2, h3⟩ := bitM_gd 1 (room := room + 27) (by omega) hm (h.less (by omega))
  obtain ⟨_, l2, l3⟩ := lenM_ok n (room := room + 19) (by omega) hm (h.less (by omega))
  obtain ⟨b1, b2, b3⟩ := backM_ok n bk (room := room + 15) (by omega) hm (h.less (by omega))
  have hl := lenN_15 (bk - 1) (by omega)
  exact ⟨even_gd _ _ room hr (b1.less (by rw [bitsOf_len']; omega)), ⟨h3, hm.lits, l3, b3, hm.kind, h2, hm.clits, l2, b2⟩⟩
end Go.Proofs.Ytedcficjmogohaa

/- The walk over put of pack's model. -/
namespace Go.Proofs.Ytedcficjmogohaa
set_option linter.unusedVariables false
set_option linter.unusedSimpArgs false
set_option maxRecDepth 100000
open Go.RowKit

theorem even_neg (p : Nat) (s : WS) (n : Int) (hdn : s.dn = false) (B : Nat) (R : HP) [Loc B R] (w : World) (hO : Own B (Wr p s * R) w) :
    Calls Try.prog 59 #[.pointer (some ⟨p, 0, none⟩), .int .i64 n, .int .i64 (-1)] w (Ret B w (.tuple #[]) (Wr p s * R)) := by
  obtain ⟨v, hV⟩ := hO.hex
  have hV := hV.assoc
  have c6 : w.cell? ⟨p, 6, none⟩ = some (.bool false) := by rw [hV.cell 6, ← hdn]; rfl
  go_enter Try.func59, Try.ntmps59
  go_wp2
  go_loopg [6] 0 (fun k i wr => i = .int .i64 (-2) ∧ wr = w)
  case atStart => exact ⟨rfl, rfl⟩
  case round =>
    obtain ⟨rfl, rfl⟩ := hrel
    go_wp2
    go_end0
    exact ⟨rfl, hO, Below.refl _ _⟩

theorem mdv_kinds {p : Nat} {a : MA} {v : Value} {m : MS} {R : HP} {k : List Int} :
    Cb a.gk k * (Bk p 97 (mdA a m.kind v) * (Lt a m.lits * (Cb a.gn m.lens * (Cb a.gb m.backs * (Rw 5 1 v m.out.length (bytesU m.out) * R))))) = MdV p a v { m with kinds := k } * R := by
  rw [mdv_eq]
  show _ = Bk p 97 (mdA a m.kind v) * (Cb a.gk k * (Lt a m.lits * (Cb a.gn m.lens * (Cb a.gb m.backs * (Rw 5 1 v m.out.length (bytesU m.out) * R)))))
  simp only [Cb]
  ac_rfl
theorem mdv_lens {p : Nat} {a : MA} {v : Value} {m : MS} {R : HP} {k : List Int} :
    Cb a.gn k * (Bk p 97 (mdA a m.kind v) * (Cb a.gk m.kinds * (Lt a m.lits * (Cb a.gb m.backs * (Rw 5 1 v m.out.length (bytesU m.out) * R))))) = MdV p a v { m with lens := k } * R := by
  rw [mdv_eq]
  show _ = Bk p 97 (mdA a m.kind v) * (Cb a.gk m.kinds * (Lt a m.lits * (Cb a.gn k * (Cb a.gb m.backs * (Rw 5 1 v m.out.length (bytesU m.out) * R)))))
  simp only [Cb]
  ac_rfl
theorem mdv_backs {p : Nat} {a : MA} {v : Value} {m : MS} {R : HP} {k : List Int} :
    Cb a.gb k * (Bk p 97 (mdA a m.kind v) * (Cb a.gk m.kinds * (Lt a m.lits * (Cb a.gn m.lens * (Rw 5 1 v m.out.length (bytesU m.out) * R))))) = MdV p a v { m with backs := k } * R := by
  rw [mdv_eq]
  show _ = Bk p 97 (mdA a m.kind v) * (Cb a.gk m.kinds * (Lt a m.lits * (Cb a.gn m.lens * (Cb a.gb k * (Rw 5 1 v m.out.length (bytesU m.out) * R)))))
  simp only [Cb]
  ac_rfl
theorem lt_upd (a : MA) (f : Nat → List Int) (q : Nat) (hq : q < 8) (x : List Int) : ∃ L : HP, (∀ B, Loc B L) ∧ Lt a f = Cb (a.gl q) (f q) * L ∧ Lt a (upd f q x) = Cb (a.gl q) x * L := by
  refine ⟨BigX (fun i => Cb (a.gl i) (f i)) q 8, fun B => inferInstance, big_split _ q 8 hq, ?_⟩
  have h := big_split (fun i => Cb (a.gl i) (upd f q x i)) q 8 hq
  simp only [upd_same] at h
  rw [bigX_congr (fun i => Cb (a.gl i) (upd f q x i)) (fun i => Cb (a.gl i) (f i)) q 8 (fun i _ hi => by simp only [upd_other f x hi])] at h
  exact h
theorem mdv_lits {p : Nat} {a : MA} {v : Value} {m : MS} {R : HP} {f : Nat → List Int} :
    Lt a f * (Bk p 97 (mdA a m.kind v) * (Cb a.gk m.kinds * (Cb a.gn m.lens * (Cb a.gb m.backs * (Rw 5 1 v m.out.length (bytesU m.out) * R))))) = MdV p a v { m with lits := f } * R := by
  rw [mdv_eq]
  show _ = Bk p 97 (mdA a m.kind v) * (Cb a.gk m.kinds * (Lt a f * (Cb a.gn m.lens * (Cb a.gb m.backs * (Rw 5 1 v m.out.length (bytesU m.out) * R)))))
  simp only [Cb]
  ac_rfl

set_option maxHeartbeats 6400000 in
theorem put_lit (p q : Nat) (a : MA) (v : Value) (m : MS) (hm : m.ok) (hl : m.out.length ≤ 70000) (lit : UInt8) (s : WS) (r : Int) (hr : 0 ≤ r) (hs : s.gd (r + 9)) (B : Nat) (R : HP) [Loc B R] (w : World) (hB : B ≤ w.heap.size) (hO : Own B (Wr q s * (MdV p a v m * R)) w) :
    Calls Try.prog 33 #[.pointer (some ⟨p, 0, none⟩), .pointer (some ⟨q, 0, none⟩), .agg #[.int .u8 (lit.toNat : Int), .int .i64 0, .int .i64 0]] w (Ret B w (.tuple #[]) (Wr q (putLit s m lit).1 * (MdV p a v (putLit s m lit).2 * R))) := by
  have o1 := hO.new hB 39 #[.int .u8 (lit.toNat : Int), .int .i64 0, .int .i64 0]
  have b1 := (Below.refl B w).alloc hB (.cells #[.int .u8 (lit.toNat : Int), .int .i64 0, .int .i64 0] 39)
  have B1 : B ≤ (w.alloc (.cells #[.int .u8 (lit.toNat : Int), .int .i64 0, .int .i64 0] 39)).heap.size := by simp; omega
  have Hc := Lib.hid (fun (w1 : World) X (m1 : MS) (s1 : WS) (h : Own B (Bk X 39 #[.int .u8 (lit.toNat : Int), .int .i64 0, .int .i64 0] * (Wr q s1 * (MdV p a v m1 * R))) w1) =>
    (show w1.cell? ⟨p, 0, none⟩ = some (chSl a.gk 2) ∧ w1.cell? ⟨p, 11, none⟩ = some (.int .i64 (m1.kind : Int)) ∧ w1.cell? ⟨X, 0, none⟩ = some (.int .u8 (lit.toNat : Int)) ∧ w1.cell? ⟨X, 1, none⟩ = some (.int .i64 0) from
      ⟨(h.drop.drop.cast mdv_eq).cellOf p 0, (h.drop.drop.cast mdv_eq).cellOf p 11, h.cell 0, h.cell 1⟩))
  have hbit := bitM_gd 0 (room := r + 8) (by omega) hm (hs.less (by omega))
  have Hb := Lib.hid (fun (w1 : World) X (B1 : B ≤ w1.heap.size) (h : Own B (Bk X 39 #[.int .u8 (lit.toNat : Int), .int .i64 0, .int .i64 0] * (Wr q s * (MdV p a v m * R))) w1) =>
    bit_any q a.gk m.kind s m.kinds 0 (r := r + 8) (by omega) B _ w1 B1 (hs.live.less (by omega)) hm.ckinds (by rw [hm.kinds]; exact hm.kind)
      (h.cast (show _ = Wr q s * (Bk a.gk 106 (chV m.kinds) * (Bk X 39 #[.int .u8 (lit.toNat : Int), .int .i64 0, .int .i64 0] * (Bk p 97 (mdA a m.kind v) * (Lt a m.lits * (Cb a.gn m.lens * (Cb a.gb m.backs * (Rw 5 1 v m.out.length (bytesU m.out) * R))))))) by rw [mdv_eq]; simp only [Cb]; ac_rfl)))
  have k0 : (0 : Int) ≤ (m.kind : Int) := by omega
  have k2 : (m.kind : Int) < 2 := by have := hm.kind; omega
  simp only [chSl] at Hc
  clear hO
  generalize hK : m.kind = K at Hc Hb k0 k2
  go_enter Try.func33, Try.ntmps33
  go_wp2
  generalize (w.alloc (.cells #[.int .u8 (lit.toNat : Int), .int .i64 0, .int .i64 0] 39)) = W1 at *
  generalize w.heap.size = X0 at *
  refine wp_region_mix (St B _ W1) [0, 1, 2, 3, 4, 5, 6, 7, 8, 9, 10, 11, 12] [13] mixed (by kernel_rfl) rfl (St.drew B1 o1) ?_
  simp only [List.filterMap_cons, List.filterMap_nil, List.getElem?_toArray, List.getElem?_cons_succ, List.getElem?_cons_zero]
  repeat (first
    | (refine held_val ?_ rfl (fun w1 hS => ?_) ?_
       rotate_left
       · (have cs := Hc.out w1 X0 _ _ hS.2.1; rw [hK] at cs; obtain ⟨c0, c11, d0, d1⟩ := cs
          go_simp
          try go_bits
          rfl)
       simp only [Act.put, List.setIfInBounds_toArray, List.set_cons_zero, List.set_cons_succ])
    | (refine held_off rfl ?_
       simp only [Act.put, List.setIfInBounds_toArray, List.set_cons_zero, List.set_cons_succ]))
  refine held_nil (fun w1 hS => ?_)
  obtain ⟨B2, o2, b2⟩ := hS
  have hb2 := b1.trans b2
  clear o1 b1 b2 B1
  have Hb2 := Lib.hid (Hb.out w1 X0 B2 o2)
  clear Hb Hc o2
  go_wp2_with fail
  refine Hb2.out.mono ?_
  rintro e w4 ⟨rfl, o4, b4⟩
  subst hK
  have hb4 := hb2.trans b4
  have B4 := Nat.le_trans B2 b4.size
  have o5 := o4.cast (show _ = Bk X0 39 #[.int .u8 (lit.toNat : Int), .int .i64 0, .int .i64 0] * (Wr q (bitM s m 0) * (MdV p a v { m with kinds := kindsM m 0 } * R)) by
    rw [← mdv_kinds]
    show Wr q (bitM s m 0) * (Cb a.gk (kindsM m 0) * _) = _
    simp only [Cb]
    ac_rfl)
  have e1 : putLit s m lit = ((treeS (bitM s m 0) (m.lits (treeIx m.out)) 1 (bitsOf lit.toNat 8)).1, { m with kinds := kindsM m 0, lits := upd m.lits (treeIx m.out) (treeS (bitM s m 0) (m.lits (treeIx m.out)) 1 (bitsOf lit.toNat 8)).2 }) := rfl
  rw [e1]
  clear e1 Hb2 hb2 B2 b4 o4
  have hlv := hbit.1.live
  obtain ⟨L, hL, e2, e3⟩ := lt_upd a m.lits (treeIx m.out) (treeIx_lt _) (treeS (bitM s m 0) (m.lits (treeIx m.out)) 1 (bitsOf lit.toNat 8)).2
  have hLB := hL B
  have Ht := Lib.hid (fun (w1 : World) (B1 : B ≤ w1.heap.size) (h : Own B (Bk X0 39 #[.int .u8 (lit.toNat : Int), .int .i64 0, .int .i64 0] * (Wr q (bitM s m 0) * (MdV p a v { m with kinds := kindsM m 0 } * R))) w1) =>
    tree_any p a v { m with kinds := kindsM m 0 } hl B (Bk X0 39 #[.int .u8 (lit.toNat : Int), .int .i64 0, .int .i64 0] * (Wr q (bitM s m 0) * R)) w1 B1 (h.cast (by ac_rfl)))
  have Ht2 := Lib.hid (fun (w1 : World) (B1 : B ≤ w1.heap.size) (h : Own B (Bk X0 39 #[.int .u8 (lit.toNat : Int), .int .i64 0, .int .i64 0] * (Wr q (bitM s m 0) * (MdV p a v { m with kinds := kindsM m 0 } * R))) w1) =>
    tree_live q (a.gl (treeIx m.out)) (bitM s m 0) (m.lits (treeIx m.out)) lit.toNat 8 (by omega) (by rw [hm.lits]; decide) (by rw [hm.lits]; omega) (by omega) (by have := lit.toNat_lt; omega) r hr B (L * (Bk X0 39 #[.int .u8 (lit.toNat : Int), .int .i64 0, .int .i64 0] * (Bk p 97 (mdA a m.kind v) * (Cb a.gk (kindsM m 0) * (Cb a.gn m.lens * (Cb a.gb m.backs * (Rw 5 1 v m.out.length (bytesU m.out) * R))))))) w1 B1 (hlv.less (by omega)) (hm.clits _)
      (h.cast (by
        rw [← mdv_lits (m := { m with kinds := kindsM m 0 }) (f := m.lits), e2]
        show _ = Wr q (bitM s m 0) * (Bk (a.gl (treeIx m.out)) _ _ * (L * _))
        simp only [Cb]
        ac_rfl)) 256)
  rw [hm.lits] at Ht2
  have d1 : w4.cell? ⟨X0, 1, none⟩ = some (.int .i64 0) := o5.cell 1
  have z1 := lit.toNat_lt
  have hlz : (0 : Int) ≤ (lit.toNat : Int) ∧ (lit.toNat : Int) < 256 := by omega
  obtain ⟨hz0, hz1⟩ := hlz
  clear hbit hlv hs hL z1
  go_wp2
  refine wp_region_mix (St B _ w4) [0, 1, 2, 3, 4, 5] [6] mixed (by kernel_rfl) rfl (St.drew B4 o5) ?_
  simp only [List.filterMap_cons, List.filterMap_nil, List.getElem?_toArray, List.getElem?_cons_succ, List.getElem?_cons_zero]
  repeat (first
    | (refine held_val ?_ rfl (fun w1 hS => ?_) ?_
       rotate_left
       · (skip
          go_simp
          try go_bits
          rfl)
       simp only [Act.put, List.setIfInBounds_toArray, List.set_cons_zero, List.set_cons_succ])
    | (refine held_off rfl ?_
       simp only [Act.put, List.setIfInBounds_toArray, List.set_cons_zero, List.set_cons_succ]))
  refine held_call 57 #[.pointer (some ⟨p, 0, none⟩)] (chSl (a.gl (treeIx m.out)) 256) rfl (fun w1 hS => by go_simp) (fun w1 hS => (Ht.out w1 hS.1 hS.2.1).mono ?_) ?_
  · rintro e w2 ⟨rfl, o2, b2⟩
    exact ⟨rfl, Nat.le_trans hS.1 b2.size, o2.cast (by ac_rfl), hS.2.2.trans b2⟩
  simp only [Act.put, List.setIfInBounds_toArray, List.set_cons_zero, List.set_cons_succ]
  repeat (first
    | (refine held_val ?_ rfl (fun w1 hS => ?_) ?_
       rotate_left
       · (have d0 : w1.cell? ⟨X0, 0, none⟩ = some (.int .u8 (lit.toNat : Int)) := hS.2.1.cell 0
          go_simp
          try go_bits
          rfl)
       simp only [Act.put, List.setIfInBounds_toArray, List.set_cons_zero, List.set_cons_succ])
    | (refine held_off rfl ?_
       simp only [Act.put, List.setIfInBounds_toArray, List.set_cons_zero, List.set_cons_succ]))
  refine held_nil (fun w6 hS => ?_)
  obtain ⟨B6, o6, b6⟩ := hS
  have hb6 := hb4.trans b6
  have Ht3 := Lib.hid (Ht2.out w6 B6 o6)
  clear Ht Ht2 o6 o5 d1 hb4 B4 b6
  simp only [chSl]
  go_wp2_with fail
  refine Ht3.out.mono ?_
  rintro e w7 ⟨rfl, o7, b7⟩
  have o8 := o7.cast (show _ = Bk X0 39 #[.int .u8 (lit.toNat : Int), .int .i64 0, .int .i64 0] * (Wr q (treeS (bitM s m 0) (m.lits (treeIx m.out)) 1 (bitsOf lit.toNat 8)).1 * (MdV p a v { m with kinds := kindsM m 0, lits := upd m.lits (treeIx m.out) (treeS (bitM s m 0) (m.lits (treeIx m.out)) 1 (bitsOf lit.toNat 8)).2 } * R)) by
    rw [← mdv_lits (m := { m with kinds := kindsM m 0 }), e3]
    simp only [Cb]
    ac_rfl)
  have hb7 := hb6.trans b7
  clear o7 b7 hb6 Ht3
  go_wp2
  go_end0
  exact ⟨rfl, o8.drop, hb7⟩
end Go.Proofs.Ytedcficjmogohaa

/- The walk over put of pack's model, of a match. -/
namespace Go.Proofs.Ytedcficjmogohaa
set_option linter.unusedVariables false
set_option linter.unusedSimpArgs false
set_option maxRecDepth 100000
open Go.RowKit

set_option maxHeartbeats 6400000 in
theorem put_match (p q : Nat) (a : MA) (v : Value) (m : MS) (hm : m.ok) (n bk : Nat) (hn : 3 ≤ n ∧ n ≤ 258) (hbk : 1 ≤ bk ∧ bk ≤ 32768) (s : WS) (r : Int) (hr : 0 ≤ r) (hs : s.gd (r + 28)) (B : Nat) (R : HP) [Loc B R] (w : World) (hB : B ≤ w.heap.size) (hO : Own B (Wr q s * (MdV p a v m * R)) w) :
    Calls Try.prog 33 #[.pointer (some ⟨p, 0, none⟩), .pointer (some ⟨q, 0, none⟩), .agg #[.int .u8 0, .int .i64 (n : Int), .int .i64 (bk : Int)]] w (Ret B w (.tuple #[]) (Wr q (putMatch s m n bk).1 * (MdV p a v (putMatch s m n bk).2 * R))) := by
  have o1 := hO.new hB 39 #[.int .u8 0, .int .i64 (n : Int), .int .i64 (bk : Int)]
  have b1 := (Below.refl B w).alloc hB (.cells #[.int .u8 0, .int .i64 (n : Int), .int .i64 (bk : Int)] 39)
  have B1 : B ≤ (w.alloc (.cells #[.int .u8 0, .int .i64 (n : Int), .int .i64 (bk : Int)] 39)).heap.size := by simp; omega
  have Hc := Lib.hid (fun (w1 : World) X (m1 : MS) (s1 : WS) (h : Own B (Bk X 39 #[.int .u8 0, .int .i64 (n : Int), .int .i64 (bk : Int)] * (Wr q s1 * (MdV p a v m1 * R))) w1) =>
    (show w1.cell? ⟨p, 0, none⟩ = some (chSl a.gk 2) ∧ w1.cell? ⟨p, 11, none⟩ = some (.int .i64 (m1.kind : Int)) ∧ w1.cell? ⟨X, 1, none⟩ = some (.int .i64 (n : Int)) ∧ w1.cell? ⟨p, 9, none⟩ = some (chSl a.gn 256) ∧ w1.cell? ⟨X, 2, none⟩ = some (.int .i64 (bk : Int)) ∧ w1.cell? ⟨p, 10, none⟩ = some (chSl a.gb 16) from
      ⟨(h.drop.drop.cast mdv_eq).cellOf p 0, (h.drop.drop.cast mdv_eq).cellOf p 11, h.cell 1, (h.drop.drop.cast mdv_eq).cellOf p 9, h.cell 2, (h.drop.drop.cast mdv_eq).cellOf p 10⟩))
  have hbit := bitM_gd 1 (room := r + 27) (by omega) hm (hs.less (by omega))
  have hlen := lenM_ok n (room := r + 19) (by omega) hm (hs.less (by omega))
  have hbak := backM_ok n bk (room := r + 15) (by omega) hm (hs.less (by omega))
  have l15 := lenN_15 (bk - 1) (by omega)
  have Hb := Lib.hid (fun (w1 : World) X (B1 : B ≤ w1.heap.size) (h : Own B (Bk X 39 #[.int .u8 0, .int .i64 (n : Int), .int .i64 (bk : Int)] * (Wr q s * (MdV p a v m * R))) w1) =>
    bit_any q a.gk m.kind s m.kinds 1 (r := r + 8) (by omega) B _ w1 B1 (hs.live.less (by omega)) hm.ckinds (by rw [hm.kinds]; exact hm.kind)
      (h.cast (show _ = Wr q s * (Bk a.gk 106 (chV m.kinds) * (Bk X 39 #[.int .u8 0, .int .i64 (n : Int), .int .i64 (bk : Int)] * (Bk p 97 (mdA a m.kind v) * (Lt a m.lits * (Cb a.gn m.lens * (Cb a.gb m.backs * (Rw 5 1 v m.out.length (bytesU m.out) * R))))))) by rw [mdv_eq]; simp only [Cb]; ac_rfl)))
  have HT1 := Lib.hid (fun (w1 : World) X (B1 : B ≤ w1.heap.size) (h : Own B (Bk X 39 #[.int .u8 0, .int .i64 (n : Int), .int .i64 (bk : Int)] * (Wr q (bitM s m 1) * (MdV p a v { m with kinds := kindsM m 1 } * R))) w1) =>
    tree_live q a.gn (bitM s m 1) m.lens ((n : Int) - 3) 8 (by omega) (by rw [hm.lens]; decide) (by rw [hm.lens]; omega) (by omega) (by omega) (r + 19) (by omega) B (Bk X 39 #[.int .u8 0, .int .i64 (n : Int), .int .i64 (bk : Int)] * (Bk p 97 (mdA a m.kind v) * (Cb a.gk (kindsM m 1) * (Lt a m.lits * (Cb a.gb m.backs * (Rw 5 1 v m.out.length (bytesU m.out) * R)))))) w1 B1 (hbit.1.live.less (by omega)) hm.clens
      (h.cast (by
        rw [← mdv_lens (m := { m with kinds := kindsM m 1 }) (k := m.lens)]
        simp only [Cb]
        ac_rfl)) 256)
  have HT2 := Lib.hid (fun (w1 : World) X (B1 : B ≤ w1.heap.size) (h : Own B (Bk X 39 #[.int .u8 0, .int .i64 (n : Int), .int .i64 (bk : Int)] * (Wr q (lenM s m n).1 * (MdV p a v { m with kinds := kindsM m 1, lens := (lenM s m n).2 } * R))) w1) =>
    tree_live q a.gb (lenM s m n).1 m.backs (lenN (bk - 1)) 4 (by omega) (by rw [hm.backs]; decide) (by rw [hm.backs]; omega) (by omega) (by omega) (r + 15) (by omega) B (Bk X 39 #[.int .u8 0, .int .i64 (n : Int), .int .i64 (bk : Int)] * (Bk p 97 (mdA a m.kind v) * (Cb a.gk (kindsM m 1) * (Lt a m.lits * (Cb a.gn (lenM s m n).2 * (Rw 5 1 v m.out.length (bytesU m.out) * R)))))) w1 B1 (hlen.1.live.less (by omega)) hm.cbacks
      (h.cast (by
        rw [← mdv_backs (m := { m with kinds := kindsM m 1, lens := (lenM s m n).2 }) (k := m.backs)]
        simp only [Cb]
        ac_rfl)) 16)
  have HE0 := Lib.hid (fun (w1 : World) X (h : Own B (Bk X 39 #[.int .u8 0, .int .i64 (n : Int), .int .i64 (bk : Int)] * (Wr q (backM s m n bk).1 * (MdV p a v { m with kinds := kindsM m 1, lens := (lenM s m n).2, backs := (backM s m n bk).2 } * R))) w1) =>
    even_neg q (backM s m n bk).1 ((bk : Int) - 1) hbak.1.live.dn B (Bk X 39 #[.int .u8 0, .int .i64 (n : Int), .int .i64 (bk : Int)] * (MdV p a v { m with kinds := kindsM m 1, lens := (lenM s m n).2, backs := (backM s m n bk).2 } * R)) w1 (h.cast (by ac_rfl)))
  have HE1 := Lib.hid (fun (w1 : World) X (B1 : B ≤ w1.heap.size) (h : Own B (Bk X 39 #[.int .u8 0, .int .i64 (n : Int), .int .i64 (bk : Int)] * (Wr q (backM s m n bk).1 * (MdV p a v { m with kinds := kindsM m 1, lens := (lenM s m n).2, backs := (backM s m n bk).2 } * R))) w1) =>
    even_live q (backM s m n bk).1 ((bk : Int) - 1) (lenN (bk - 1) - 1) (by omega) (by omega) (by omega) r hr B (Bk X 39 #[.int .u8 0, .int .i64 (n : Int), .int .i64 (bk : Int)] * (MdV p a v { m with kinds := kindsM m 1, lens := (lenM s m n).2, backs := (backM s m n bk).2 } * R)) w1 B1 (hbak.1.live.less (by omega)) (h.cast (by ac_rfl)))
  have HL := Lib.hid (fun (w1 : World) => len_any (bk - 1) (by omega) w1)
  have hpm : Hid (putMatch s m n bk = (evenS (backM s m n bk).1 (bitsOf ((bk : Int) - 1) (lenN (bk - 1) - 1)), { m with kinds := kindsM m 1, lens := (lenM s m n).2, backs := (backM s m n bk).2 })) := Lib.hid rfl
  have Hlm : Hid (lenM s m n = treeS (bitM s m 1) m.lens 1 (bitsOf ((n : Int) - 3) 8)) := Lib.hid rfl
  have Hbm : Hid (backM s m n bk = treeS (lenM s m n).1 m.backs 1 (bitsOf (lenN (bk - 1)) 4)) := Lib.hid rfl
  rw [hm.lens] at HT1
  rw [hm.backs] at HT2
  have hks : kindsM m 1 = m.kinds.set m.kind (sawN (kindN m) 1) := rfl
  have k0 : (0 : Int) ≤ (m.kind : Int) := by omega
  have k2 : (m.kind : Int) < 2 := by have := hm.kind; omega
  have n3 : (3 : Int) ≤ (n : Int) := by omega
  have n258 : (n : Int) ≤ 258 := by omega
  have n1 : ¬ (n : Int) < 1 := by omega
  have n0 : ¬ (n : Int) = 0 := by omega
  have n0' : ((n : Int) == 0) = false := by rw [beq_eq_false_iff_ne]; exact n0
  have nle : ¬ (n : Int) ≤ 1 := by omega
  have nlt : (1 : Int) < (n : Int) := by omega
  have bk1 : (1 : Int) ≤ (bk : Int) := by omega
  have bk2 : (bk : Int) ≤ 32768 := by omega
  simp only [chSl] at Hc
  have HB := Lib.hid hbk
  clear hO hbit hlen hbak hs hks hbk hn
  generalize hK : m.kind = K at Hc Hb k0 k2
  go_enter Try.func33, Try.ntmps33
  go_wp2
  generalize (w.alloc (.cells #[.int .u8 0, .int .i64 (n : Int), .int .i64 (bk : Int)] 39)) = W1 at *
  generalize w.heap.size = X0 at *
  refine wp_region_mix (St B _ W1) [0, 1, 2, 3, 4, 5, 6, 7, 8, 9, 10, 11, 12] [13] mixed (by kernel_rfl) rfl (St.drew B1 o1) ?_
  simp only [List.filterMap_cons, List.filterMap_nil, List.getElem?_toArray, List.getElem?_cons_succ, List.getElem?_cons_zero]
  repeat (first
    | (refine held_val ?_ rfl (fun w1 hS => ?_) ?_
       rotate_left
       · (have cs := Hc.out w1 X0 _ _ hS.2.1; rw [hK] at cs; obtain ⟨c0, c11, d1, c9, d2, c10⟩ := cs
          go_simp
          try go_bits
          rfl)
       simp only [Act.put, List.setIfInBounds_toArray, List.set_cons_zero, List.set_cons_succ])
    | (refine held_off rfl ?_
       simp only [Act.put, List.setIfInBounds_toArray, List.set_cons_zero, List.set_cons_succ]))
  refine held_nil (fun w1 hS => ?_)
  obtain ⟨B2, o2, b2⟩ := hS
  have hb2 := b1.trans b2
  clear o1 b1 b2 B1
  have Hb2 := Lib.hid (Hb.out w1 X0 B2 o2)
  clear Hb o2
  go_wp2_with fail
  refine Hb2.out.mono ?_
  rintro e w4 ⟨rfl, o4, b4⟩
  subst hK
  have hb4 := hb2.trans b4
  have B4 := Nat.le_trans B2 b4.size
  have o5 := o4.cast (show _ = Bk X0 39 #[.int .u8 0, .int .i64 (n : Int), .int .i64 (bk : Int)] * (Wr q (bitM s m 1) * (MdV p a v { m with kinds := kindsM m 1 } * R)) by
    rw [← mdv_kinds]
    show Wr q (bitM s m 1) * (Cb a.gk (kindsM m 1) * _) = _
    simp only [Cb]
    ac_rfl)
  have d1 : w4.cell? ⟨X0, 1, none⟩ = some (.int .i64 (n : Int)) := o5.cell 1
  clear Hb2 hb2 B2 b4 o4
  go_wp2
  refine wp_region_mix (St B _ w4) [0, 1, 2, 3, 4, 5, 6, 7] [8] mixed (by kernel_rfl) rfl (St.drew B4 o5) ?_
  simp only [List.filterMap_cons, List.filterMap_nil, List.getElem?_toArray, List.getElem?_cons_succ, List.getElem?_cons_zero]
  repeat (first
    | (refine held_val ?_ rfl (fun w1 hS => ?_) ?_
       rotate_left
       · (obtain ⟨c0, c11, d1, c9, d2, c10⟩ := Hc.out w1 X0 _ _ hS.2.1
          go_simp
          try go_bits
          rfl)
       simp only [Act.put, List.setIfInBounds_toArray, List.set_cons_zero, List.set_cons_succ])
    | (refine held_off rfl ?_
       simp only [Act.put, List.setIfInBounds_toArray, List.set_cons_zero, List.set_cons_succ]))
  refine held_nil (fun w6 hS => ?_)
  obtain ⟨B6, o6, b6⟩ := hS
  have hb6 := hb4.trans b6
  have H6 := Lib.hid (HT1.out w6 X0 B6 o6)
  clear HT1 o6 o5 d1 hb4 B4 b6
  go_wp2_with fail
  refine H6.out.mono ?_
  rintro e w7 ⟨rfl, o7, b7⟩
  rw [← Hlm.out] at o7
  have o8 := o7.cast (show _ = Bk X0 39 #[.int .u8 0, .int .i64 (n : Int), .int .i64 (bk : Int)] * (Wr q (lenM s m n).1 * (MdV p a v { m with kinds := kindsM m 1, lens := (lenM s m n).2 } * R)) by
    rw [← mdv_lens (m := { m with kinds := kindsM m 1 })]
    simp only [Cb]
    ac_rfl)
  have hb8 := hb6.trans b7
  have B8 := Nat.le_trans B6 b7.size
  clear o7 b7 hb6 H6 B6
  obtain ⟨_, _, _, _, d2, c10⟩ := Hc.out w7 X0 _ _ o8
  have hl := HL
  rw [show ((bk - 1 : Nat) : Int) = (bk : Int) - 1 by have := HB.out; omega] at hl
  have Hl := Lib.hid hl.out
  clear HL hl
  have lz0 : (0 : Int) ≤ (lenN (bk - 1) : Int) := by omega
  have lz1 : (lenN (bk - 1) : Int) ≤ 15 := by omega
  go_wp2_with fail
  refine (Hl.out _).mono ?_
  rintro e wz ⟨rfl, rfl⟩
  have H8 := Lib.hid (HT2.out w7 X0 B8 o8)
  clear HT2 o8
  go_wp2_with fail
  refine H8.out.mono ?_
  rintro e w9 ⟨rfl, o9, b9⟩
  rw [← Hbm.out] at o9
  have o10 := o9.cast (show _ = Bk X0 39 #[.int .u8 0, .int .i64 (n : Int), .int .i64 (bk : Int)] * (Wr q (backM s m n bk).1 * (MdV p a v { m with kinds := kindsM m 1, lens := (lenM s m n).2, backs := (backM s m n bk).2 } * R)) by
    rw [← mdv_backs (m := { m with kinds := kindsM m 1, lens := (lenM s m n).2 })]
    simp only [Cb]
    ac_rfl)
  have hb10 := hb8.trans b9
  have B10 := Nat.le_trans B8 b9.size
  clear o9 b9 hb8 H8 B8 d2 c10
  obtain ⟨_, _, _, _, d2, _⟩ := Hc.out w9 X0 _ _ o10
  by_cases hz : lenN (bk - 1) = 0
  · have he : Hid (putMatch s m n bk = ((backM s m n bk).1, { m with kinds := kindsM m 1, lens := (lenM s m n).2, backs := (backM s m n bk).2 })) := Lib.hid (by rw [hpm.out, hz]; rfl)
    have H10 := Lib.hid (HE0.out w9 X0 o10)
    clear HE0 HE1 o10 hpm
    rw [hz]
    go_wp2_with fail
    refine H10.out.mono ?_
    rintro e w11 ⟨rfl, o11, b11⟩
    have o12 := o11.cast (show _ = Bk X0 39 #[.int .u8 0, .int .i64 (n : Int), .int .i64 (bk : Int)] * (Wr q (backM s m n bk).1 * (MdV p a v { m with kinds := kindsM m 1, lens := (lenM s m n).2, backs := (backM s m n bk).2 } * R)) by ac_rfl)
    have hb12 := hb10.trans b11
    clear o11 b11 hb10
    go_wp2
    go_end0
    rw [he.out]
    exact ⟨rfl, o12.drop, hb12⟩
  · have h10 := HE1.out w9 X0 B10 o10
    rw [show ((lenN (bk - 1) - 1 : Nat) : Int) = (lenN (bk - 1) : Int) - 1 by omega] at h10
    have H10 := Lib.hid h10
    clear HE0 HE1 o10 h10
    go_wp2_with fail
    refine H10.out.mono ?_
    rintro e w11 ⟨rfl, o11, b11⟩
    have o12 := o11.cast (show _ = Bk X0 39 #[.int .u8 0, .int .i64 (n : Int), .int .i64 (bk : Int)] * (Wr q (evenS (backM s m n bk).1 (bitsOf ((bk : Int) - 1) (lenN (bk - 1) - 1))) * (MdV p a v { m with kinds := kindsM m 1, lens := (lenM s m n).2, backs := (backM s m n bk).2 } * R)) by ac_rfl)
    have hb12 := hb10.trans b11
    clear o11 b11 hb10
    go_wp2
    go_end0
    rw [hpm.out]
    exact ⟨rfl, o12.drop, hb12⟩
end Go.Proofs.Ytedcficjmogohaa

/- What take of pack's model takes: plain. -/
namespace Go.Proofs.Ytedcficjmogohaa
set_option linter.unusedVariables false
set_option linter.unusedSimpArgs false
set_option maxRecDepth 100000
open Go.RowKit

def tkBit (s : RS) (m : MS) : Int := takeBit s (rBound s (kindN m))
def tkS (s : RS) (m : MS) : RS := takeS s (rBound s (kindN m))
def rLit (s : RS) (m : MS) : Nat × RS × List Int := rTree 8 (tkS s m) (m.lits (treeIx m.out)) 1
def takeLit (s : RS) (m : MS) : Tk × RS × MS :=
  (⟨UInt8.ofNat ((rLit s m).1 - 256), 0, 0⟩, (rLit s m).2.1, { m with kinds := kindsM m (tkBit s m), lits := upd m.lits (treeIx m.out) (rLit s m).2.2 })
def rLen (s : RS) (m : MS) : Nat × RS × List Int := rTree 8 (tkS s m) m.lens 1
def rBack (s : RS) (m : MS) : Nat × RS × List Int := rTree 4 (rLen s m).2.1 m.backs 1
def rN (s : RS) (m : MS) : Nat := (rBack s m).1 - 16
def rLow (s : RS) (m : MS) : Nat × RS := if rN s m = 0 then (0, (rBack s m).2.1) else rEven (rN s m - 1) (rBack s m).2.1 0
def takeMatch (s : RS) (m : MS) : Tk × RS × MS :=
  (⟨0, 3 + (((rLen s m).1 - 256 : Nat) : Int), if rN s m = 0 then 1 else 1 + ((2 ^ (rN s m - 1) + (rLow s m).1 : Nat) : Int)⟩, (rLow s m).2, { m with kinds := kindsM m (tkBit s m), lens := (rLen s m).2.2, backs := (rBack s m).2.2 })
def takeM (s : RS) (m : MS) : Tk × RS × MS := if tkBit s m = 0 then takeLit s m else takeMatch s m
theorem rTree_live : ∀ (k : Nat) (s : RS) (cl : List Int) (a : Nat), s.live → chOk cl → (rTree k s cl a).2.1.live ∧ chOk (rTree k s cl a).2.2 ∧ (rTree k s cl a).2.2.length = cl.length
  | 0, s, cl, a, h, hc => ⟨h, hc, rfl⟩
  | k + 1, s, cl, a, h, hc => by
    have hk := chOk_get hc a
    have hb := rBound_in h hk
    have ih := rTree_live k (takeS s (rBound s (cl.getD a 0))) (cl.set a (sawN (cl.getD a 0) (takeBit s (rBound s (cl.getD a 0))))) (2 * a + (takeBit s (rBound s (cl.getD a 0))).toNat) (takeS_live h hb.1 hb.2) (chOk_set hc _ _ (sawN_ok _ _ hk))
    exact ⟨ih.1, ih.2.1, ih.2.2.trans (List.length_set ..)⟩
theorem rEven_live : ∀ (k : Nat) (s : RS) (a : Nat), s.live → (rEven k s a).2.live
  | 0, s, a, h => h
  | k + 1, s, a, h => rEven_live k _ _ (takeS_live h (by have := h.wide; omega) (by have := h.wide; omega))
theorem tkS_live {s : RS} {m : MS} (h : s.live) (hm : m.ok) : (tkS s m).live := by
  have hk := chOk_get hm.ckinds m.kind
  have hb := rBound_in h hk
  exact takeS_live h hb.1 hb.2
theorem kindsM_ok {m : MS} (hm : m.ok) (b : Int) : chOk (kindsM m b) ∧ (kindsM m b).length = 2 :=
  ⟨chOk_set hm.ckinds _ _ (sawN_ok _ _ (chOk_get hm.ckinds m.kind)), by unfold kindsM; rw [List.length_set]; exact hm.kinds⟩
theorem rN_lt (s : RS) (m : MS) : rN s m ≤ 15 := by
  have := (rTree_ge 4 (rLen s m).2.1 m.backs 1).2
  unfold rN rBack
  omega
theorem takeLit_ok {s : RS} {m : MS} (h : s.live) (hm : m.ok) : (takeLit s m).2.1.live ∧ (takeLit s m).2.2.ok := by
  have hk := kindsM_ok hm (tkBit s m)
  obtain ⟨k1, k2, k3⟩ := rTree_live 8 (tkS s m) (m.lits (treeIx m.out)) 1 (tkS_live h hm) (hm.clits _)
  refine ⟨k1, ⟨hk.2, fun i => ?_, hm.lens, hm.backs, hm.kind, hk.1, fun i => ?_, hm.clens, hm.cbacks⟩⟩
  · show (upd m.lits _ _ i).length = 256
    unfold upd; split
    · exact k3.trans (hm.lits _)
    · exact hm.lits _
  · show chOk (upd m.lits _ _ i)
    unfold upd; split
    · exact k2
    · exact hm.clits _
theorem rLen_ok {s : RS} {m : MS} (h : s.live) (hm : m.ok) : (rLen s m).2.1.live ∧ chOk (rLen s m).2.2 ∧ (rLen s m).2.2.length = 256 := by
  obtain ⟨k1, k2, k3⟩ := rTree_live 8 (tkS s m) m.lens 1 (tkS_live h hm) hm.clens
  exact ⟨k1, k2, k3.trans hm.lens⟩
theorem rBack_ok {s : RS} {m : MS} (h : s.live) (hm : m.ok) : (rBack s m).2.1.live ∧ chOk (rBack s m).2.2 ∧ (rBack s m).2.2.length = 16 := by
  obtain ⟨k1, k2, k3⟩ := rTree_live 4 (rLen s m).2.1 m.backs 1 (rLen_ok h hm).1 hm.cbacks
  exact ⟨k1, k2, k3.trans hm.backs⟩
theorem takeMatch_ok {s : RS} {m : MS} (h : s.live) (hm : m.ok) : (takeMatch s m).2.1.live ∧ (takeMatch s m).2.2.ok := by
  have hk := kindsM_ok hm (tkBit s m)
  have hl := rLen_ok h hm
  have hb := rBack_ok h hm
  refine ⟨?_, ⟨hk.2, hm.lits, hl.2.2, hb.2.2, hm.kind, hk.1, hm.clits, hl.2.1, hb.2.1⟩⟩
  show (rLow s m).2.live
  unfold rLow
  split
  · exact hb.1
  · exact rEven_live _ _ _ hb.1
theorem takeM_ok {s : RS} {m : MS} (h : s.live) (hm : m.ok) : (takeM s m).2.1.live ∧ (takeM s m).2.2.ok ∧ (takeM s m).2.2.out = m.out := by
  unfold takeM
  split
  · exact ⟨(takeLit_ok h hm).1, (takeLit_ok h hm).2, rfl⟩
  · exact ⟨(takeMatch_ok h hm).1, (takeMatch_ok h hm).2, rfl⟩
end Go.Proofs.Ytedcficjmogohaa

/- The walk over take of pack's model, of a literal. -/
namespace Go.Proofs.Ytedcficjmogohaa
set_option linter.unusedVariables false
set_option linter.unusedSimpArgs false
set_option maxRecDepth 100000
open Go.RowKit

set_option maxHeartbeats 6400000 in
theorem take_lit (p q : Nat) (a : MA) (v : Value) (m : MS) (hm : m.ok) (hl : m.out.length ≤ 70000) (s : RS) (hs : s.live) (h0 : tkBit s m = 0) (B : Nat) (R : HP) [Loc B R] (w : World) (hB : B ≤ w.heap.size) (hO : Own B (Re q s * (MdV p a v m * R)) w) :
    Calls Try.prog 51 #[.pointer (some ⟨p, 0, none⟩), .pointer (some ⟨q, 0, none⟩)] w (Ret B w (.agg (tkL (takeLit s m).1).toArray) (Re q (takeLit s m).2.1 * (MdV p a v (takeLit s m).2.2 * R))) := by
  have o1 := hO.new hB 39 #[.int .u8 0, .int .i64 0, .int .i64 0]
  have b1 := (Below.refl B w).alloc hB (.cells #[.int .u8 0, .int .i64 0, .int .i64 0] 39)
  have B1 : B ≤ (w.alloc (.cells #[.int .u8 0, .int .i64 0, .int .i64 0] 39)).heap.size := by simp; omega
  have hC1 : ∃ C : HP, C = Bk w.heap.size 39 #[.int .u8 0, .int .i64 0, .int .i64 0] := ⟨_, rfl⟩
  have Hc := Lib.hid (fun (w1 : World) X (m1 : MS) (s1 : RS) (h : Own B (Bk X 39 #[.int .u8 0, .int .i64 0, .int .i64 0] * (Re q s1 * (MdV p a v m1 * R))) w1) =>
    (show w1.cell? ⟨p, 0, none⟩ = some (chSl a.gk 2) ∧ w1.cell? ⟨p, 11, none⟩ = some (.int .i64 (m1.kind : Int)) from
      ⟨(h.drop.drop.cast mdv_eq).cellOf p 0, (h.drop.drop.cast mdv_eq).cellOf p 11⟩))
  have hbit := tkS_live hs hm
  have Hb := Lib.hid (fun (w1 : World) X (B1 : B ≤ w1.heap.size) (h : Own B (Bk X 39 #[.int .u8 0, .int .i64 0, .int .i64 0] * (Re q s * (MdV p a v m * R))) w1) =>
    rbit_any q a.gk m.kind s m.kinds B _ w1 B1 hs hm.ckinds (by rw [hm.kinds]; exact hm.kind)
      (h.cast (show _ = Re q s * (Bk a.gk 106 (chV m.kinds) * (Bk X 39 #[.int .u8 0, .int .i64 0, .int .i64 0] * (Bk p 97 (mdA a m.kind v) * (Lt a m.lits * (Cb a.gn m.lens * (Cb a.gb m.backs * (Rw 5 1 v m.out.length (bytesU m.out) * R))))))) by rw [mdv_eq]; simp only [Cb]; ac_rfl)))
  have hk0 : takeBit s (rBound s (m.kinds.getD m.kind 0)) = 0 := h0
  rw [hk0] at Hb
  have k0 : (0 : Int) ≤ (m.kind : Int) := by omega
  have k2 : (m.kind : Int) < 2 := by have := hm.kind; omega
  simp only [chSl] at Hc
  clear hO hC1
  generalize hK : m.kind = K at Hc Hb k0 k2
  go_enter Try.func51, Try.ntmps51
  go_wp2
  generalize (w.alloc (.cells #[.int .u8 0, .int .i64 0, .int .i64 0] 39)) = W1 at *
  generalize w.heap.size = X0 at *
  refine wp_region_mix (St B _ W1) [0, 1, 2, 3, 4, 5, 6, 7, 8, 9] [10, 11] mixed (by kernel_rfl) rfl (St.drew B1 o1) ?_
  simp only [List.filterMap_cons, List.filterMap_nil, List.getElem?_toArray, List.getElem?_cons_succ, List.getElem?_cons_zero]
  repeat (first
    | (refine held_val ?_ rfl (fun w1 hS => ?_) ?_
       rotate_left
       · (have cs := Hc.out w1 X0 _ _ hS.2.1; rw [hK] at cs; obtain ⟨c0, c11⟩ := cs
          go_simp
          try go_bits
          rfl)
       simp only [Act.put, List.setIfInBounds_toArray, List.set_cons_zero, List.set_cons_succ])
    | (refine held_off rfl ?_
       simp only [Act.put, List.setIfInBounds_toArray, List.set_cons_zero, List.set_cons_succ]))
  refine held_nil (fun w1 hS => ?_)
  obtain ⟨B2, o2, b2⟩ := hS
  have hb2 := b1.trans b2
  clear o1 b1 b2 B1
  have Hb2 := Lib.hid (Hb.out w1 X0 B2 o2)
  clear Hb Hc o2
  go_wp2_with fail
  refine Hb2.out.mono ?_
  rintro e w4 ⟨rfl, o4, b4⟩
  subst hK
  have hb4 := hb2.trans b4
  have B4 := Nat.le_trans B2 b4.size
  have o5 := o4.cast (show _ = Bk X0 39 #[.int .u8 0, .int .i64 0, .int .i64 0] * (Re q (tkS s m) * (MdV p a v { m with kinds := kindsM m 0 } * R)) by
    rw [← mdv_kinds]
    show Re q (tkS s m) * (Cb a.gk (kindsM m 0) * _) = _
    simp only [Cb]
    ac_rfl)
  obtain ⟨L, hL, e2, e3⟩ := lt_upd a m.lits (treeIx m.out) (treeIx_lt _) (rLit s m).2.2
  have hLB := hL B
  have Ht := Lib.hid (fun (w1 : World) (B1 : B ≤ w1.heap.size) (h : Own B (Bk X0 39 #[.int .u8 0, .int .i64 0, .int .i64 0] * (Re q (tkS s m) * (MdV p a v { m with kinds := kindsM m 0 } * R))) w1) =>
    tree_any p a v { m with kinds := kindsM m 0 } hl B (Bk X0 39 #[.int .u8 0, .int .i64 0, .int .i64 0] * (Re q (tkS s m) * R)) w1 B1 (h.cast (by ac_rfl)))
  have Ht2 := Lib.hid (fun (w1 : World) (B1 : B ≤ w1.heap.size) (h : Own B (Bk X0 39 #[.int .u8 0, .int .i64 0, .int .i64 0] * (Re q (tkS s m) * (MdV p a v { m with kinds := kindsM m 0 } * R))) w1) =>
    rtree_any q (a.gl (treeIx m.out)) (tkS s m) (m.lits (treeIx m.out)) 8 (by omega) (by rw [hm.lits]; decide) (by rw [hm.lits]; omega) B (L * (Bk X0 39 #[.int .u8 0, .int .i64 0, .int .i64 0] * (Bk p 97 (mdA a m.kind v) * (Cb a.gk (kindsM m 0) * (Cb a.gn m.lens * (Cb a.gb m.backs * (Rw 5 1 v m.out.length (bytesU m.out) * R))))))) w1 B1 hbit (hm.clits _)
      (h.cast (by
        rw [← mdv_lits (m := { m with kinds := kindsM m 0 }) (f := m.lits), e2]
        show _ = Re q (tkS s m) * (Bk (a.gl (treeIx m.out)) _ _ * (L * _))
        simp only [Cb]
        ac_rfl)) 256)
  rw [hm.lits] at Ht2
  have hge := rTree_ge 8 (tkS s m) (m.lits (treeIx m.out)) 1
  have hres : treeRes 8 (tkS s m) (m.lits (treeIx m.out)) = (((rLit s m).1 - 256 : Nat) : Int) := by unfold treeRes rLit; omega
  have hx : (rLit s m).1 - 256 < 256 := by unfold rLit; omega
  have eT : Hid (takeLit s m = (⟨UInt8.ofNat ((rLit s m).1 - 256), 0, 0⟩, (rLit s m).2.1, { m with kinds := kindsM m 0, lits := upd m.lits (treeIx m.out) (rLit s m).2.2 })) := Lib.hid (by unfold takeLit; rw [h0])
  have eU : ((UInt8.ofNat ((rLit s m).1 - 256)).toNat : Int) = (((rLit s m).1 - 256 : Nat) : Int) := by simp; omega
  rw [hres] at Ht2
  have eR : Hid (rTree 8 (tkS s m) (m.lits (treeIx m.out)) 1 = rLit s m) := Lib.hid rfl
  have EU := Lib.hid eU
  clear Hb2 hb2 B2 b4 o4 hbit hL hge hres hk0 h0 hs eU
  generalize (rLit s m).1 - 256 = X at *
  have x0 : (0 : Int) ≤ (X : Int) := by omega
  have x1 : (X : Int) < 256 := by omega
  go_wp2_with fail
  refine (Ht.out _ B4 o5).mono ?_
  rintro e w6 ⟨rfl, o6, b6⟩
  have hb6 := hb4.trans b6
  have B6 := Nat.le_trans B4 b6.size
  have H6 := Lib.hid (Ht2.out w6 B6 (o6.cast (by ac_rfl)))
  clear Ht Ht2 o6 o5 hb4 B4 b6
  simp only [chSl]
  go_wp2_with fail
  refine H6.out.mono ?_
  rintro e w7 ⟨rfl, o7, b7⟩
  rw [eR.out] at o7
  have o8 := o7.cast (show _ = Bk X0 39 #[.int .u8 0, .int .i64 0, .int .i64 0] * (Re q (rLit s m).2.1 * (MdV p a v { m with kinds := kindsM m 0, lits := upd m.lits (treeIx m.out) (rLit s m).2.2 } * R)) by
    rw [← mdv_lits (m := { m with kinds := kindsM m 0 }), e3]
    simp only [Cb]
    ac_rfl)
  have hb7 := hb6.trans b7
  have B7 := Nat.le_trans B6 b7.size
  clear o7 b7 hb6 H6
  have p0 : w7.cell? ⟨X0, 0, none⟩ = some (.int .u8 0) := o8.cell 0
  have p1 : w7.cell? ⟨X0, 1, none⟩ = some (.int .i64 0) := o8.cell 1
  have p2 : w7.cell? ⟨X0, 2, none⟩ = some (.int .i64 0) := o8.cell 2
  have v0 := o8.unfrozen 0
  have v1 := o8.unfrozen 1
  have v2 := o8.unfrozen 2
  obtain ⟨os, bs⟩ := o8.set3 B7 (.int .u8 (X : Int)) (.int .i64 0) (.int .i64 0)
  go_wp2
  refine bodyPost_ret (results_cell_row rfl _ _ X0 39 #[.int .u8 (X : Int), .int .i64 0, .int .i64 0] (0, 0) _ rfl os.bk.1 Try.underlying39 rfl (by kernel_rfl)) rfl ?_
  rw [eT.out]
  exact ⟨by simp only [tkL, EU.out], os.drop, hb7.trans bs⟩
end Go.Proofs.Ytedcficjmogohaa

/- The walk over take of pack's model, of a match. -/
namespace Go.Proofs.Ytedcficjmogohaa
set_option linter.unusedVariables false
set_option linter.unusedSimpArgs false
set_option maxRecDepth 100000
open Go.RowKit

theorem or_pow (n e : Nat) (hn : n ≤ 14) (he : e < 2 ^ n) : bits .or .i64 ((2 ^ n : Nat) : Int) (e : Int) = ((2 ^ n + e : Nat) : Int) := by
  have h1 : 2 ^ n ≤ 2 ^ 14 := Nat.pow_le_pow_right (by omega) hn
  have h2 : 2 ^ n ||| e = 2 ^ n + e := by
    have := Nat.two_pow_add_eq_or_of_lt he 1
    rw [Nat.mul_one] at this
    exact this.symm
  generalize hP : 2 ^ n = P at *
  show IntKind.i64.wrap ((BitVec.ofInt 64 (P : Int) ||| BitVec.ofInt 64 (e : Int)).toNat : Int) = _
  rw [BitVec.toNat_or, BitVec.toNat_ofInt, BitVec.toNat_ofInt, IntKind.wrap_i64, show ((((P : Int) % ((2 ^ 64 : Nat) : Int)).toNat)) = P by omega, show (((e : Int) % ((2 ^ 64 : Nat) : Int)).toNat) = e by omega, h2]
  omega
theorem wrap_pow (n : Nat) (hn : n ≤ 14) : wrap64 ((2 : Int) ^ n) = ((2 ^ n : Nat) : Int) := by
  have : (List.range 15).all (fun n => decide (wrap64 ((2 : Int) ^ n) = ((2 ^ n : Nat) : Int))) = true := by kernel_rfl
  exact of_decide_eq_true (List.all_eq_true.1 this n (List.mem_range.2 (by omega)))
set_option maxHeartbeats 6400000 in
theorem take_match (p q : Nat) (a : MA) (v : Value) (m : MS) (hm : m.ok) (s : RS) (hs : s.live) (h0 : tkBit s m = 1) (B : Nat) (R : HP) [Loc B R] (w : World) (hB : B ≤ w.heap.size) (hO : Own B (Re q s * (MdV p a v m * R)) w) :
    Calls Try.prog 51 #[.pointer (some ⟨p, 0, none⟩), .pointer (some ⟨q, 0, none⟩)] w (Ret B w (.agg (tkL (takeMatch s m).1).toArray) (Re q (takeMatch s m).2.1 * (MdV p a v (takeMatch s m).2.2 * R))) := by
  have o1 := hO.new hB 39 #[.int .u8 0, .int .i64 0, .int .i64 0]
  have b1 := (Below.refl B w).alloc hB (.cells #[.int .u8 0, .int .i64 0, .int .i64 0] 39)
  have B1 : B ≤ (w.alloc (.cells #[.int .u8 0, .int .i64 0, .int .i64 0] 39)).heap.size := by simp; omega
  have Hc := Lib.hid (fun (w1 : World) (R2 : HP) (m1 : MS) (s1 : RS) (h : Own B (R2 * (Re q s1 * (MdV p a v m1 * R))) w1) =>
    (show w1.cell? ⟨p, 0, none⟩ = some (chSl a.gk 2) ∧ w1.cell? ⟨p, 11, none⟩ = some (.int .i64 (m1.kind : Int)) ∧ w1.cell? ⟨p, 9, none⟩ = some (chSl a.gn 256) ∧ w1.cell? ⟨p, 10, none⟩ = some (chSl a.gb 16) from
      ⟨(h.drop.drop.cast mdv_eq).cellOf p 0, (h.drop.drop.cast mdv_eq).cellOf p 11, (h.drop.drop.cast mdv_eq).cellOf p 9, (h.drop.drop.cast mdv_eq).cellOf p 10⟩))
  have Hb := Lib.hid (fun (w1 : World) X (B1 : B ≤ w1.heap.size) (h : Own B (Bk X 39 #[.int .u8 0, .int .i64 0, .int .i64 0] * (Re q s * (MdV p a v m * R))) w1) =>
    rbit_any q a.gk m.kind s m.kinds B _ w1 B1 hs hm.ckinds (by rw [hm.kinds]; exact hm.kind)
      (h.cast (show _ = Re q s * (Bk a.gk 106 (chV m.kinds) * (Bk X 39 #[.int .u8 0, .int .i64 0, .int .i64 0] * (Bk p 97 (mdA a m.kind v) * (Lt a m.lits * (Cb a.gn m.lens * (Cb a.gb m.backs * (Rw 5 1 v m.out.length (bytesU m.out) * R))))))) by rw [mdv_eq]; simp only [Cb]; ac_rfl)))
  have hk0 : takeBit s (rBound s (m.kinds.getD m.kind 0)) = 1 := h0
  rw [hk0] at Hb
  have hbit := tkS_live hs hm
  have hlen := rLen_ok hs hm
  have hbak := rBack_ok hs hm
  have l15 := rN_lt s m
  have HT1 := Lib.hid (fun (w1 : World) X (B1 : B ≤ w1.heap.size) (h : Own B (Bk X 39 #[.int .u8 0, .int .i64 0, .int .i64 0] * (Re q (tkS s m) * (MdV p a v { m with kinds := kindsM m 1 } * R))) w1) =>
    rtree_any q a.gn (tkS s m) m.lens 8 (by omega) (by rw [hm.lens]; decide) (by rw [hm.lens]; omega) B (Bk X 39 #[.int .u8 0, .int .i64 0, .int .i64 0] * (Bk p 97 (mdA a m.kind v) * (Cb a.gk (kindsM m 1) * (Lt a m.lits * (Cb a.gb m.backs * (Rw 5 1 v m.out.length (bytesU m.out) * R)))))) w1 B1 hbit hm.clens
      (h.cast (by
        rw [← mdv_lens (m := { m with kinds := kindsM m 1 }) (k := m.lens)]
        simp only [Cb]
        ac_rfl)) 256)
  have HT2 := Lib.hid (fun (w1 : World) (R2 : HP) (_ : Loc B R2) (B1 : B ≤ w1.heap.size) (h : Own B (R2 * (Re q (rLen s m).2.1 * (MdV p a v { m with kinds := kindsM m 1, lens := (rLen s m).2.2 } * R))) w1) =>
    rtree_any q a.gb (rLen s m).2.1 m.backs 4 (by omega) (by rw [hm.backs]; decide) (by rw [hm.backs]; omega) B (R2 * (Bk p 97 (mdA a m.kind v) * (Cb a.gk (kindsM m 1) * (Lt a m.lits * (Cb a.gn (rLen s m).2.2 * (Rw 5 1 v m.out.length (bytesU m.out) * R)))))) w1 B1 hlen.1 hm.cbacks
      (h.cast (by
        rw [← mdv_backs (m := { m with kinds := kindsM m 1, lens := (rLen s m).2.2 }) (k := m.backs)]
        simp only [Cb]
        ac_rfl)) 16)
  have HE1 := Lib.hid (fun (w1 : World) (R2 : HP) (_ : Loc B R2) (B1 : B ≤ w1.heap.size) (h : Own B (R2 * (Re q (rBack s m).2.1 * (MdV p a v { m with kinds := kindsM m 1, lens := (rLen s m).2.2, backs := (rBack s m).2.2 } * R))) w1) =>
    reven_any q (rBack s m).2.1 (rN s m - 1) (by omega) B (R2 * (MdV p a v { m with kinds := kindsM m 1, lens := (rLen s m).2.2, backs := (rBack s m).2.2 } * R)) w1 B1 hbak.1 (h.cast (by ac_rfl)))
  have hg1 := rTree_ge 8 (tkS s m) m.lens 1
  have hg2 := rTree_ge 4 (rLen s m).2.1 m.backs 1
  have hr1 : treeRes 8 (tkS s m) m.lens = (((rLen s m).1 - 256 : Nat) : Int) := by unfold treeRes rLen; omega
  have hr2 : treeRes 4 (rLen s m).2.1 m.backs = ((rN s m : Nat) : Int) := by unfold treeRes rN rBack; omega
  have hx : (rLen s m).1 - 256 < 256 := by unfold rLen; omega
  rw [hr1] at HT1
  rw [hr2] at HT2
  rw [hm.lens] at HT1
  rw [hm.backs] at HT2
  have eT : Hid (takeMatch s m = (⟨0, 3 + (((rLen s m).1 - 256 : Nat) : Int), if rN s m = 0 then 1 else 1 + ((2 ^ (rN s m - 1) + (rLow s m).1 : Nat) : Int)⟩, (rLow s m).2, { m with kinds := kindsM m 1, lens := (rLen s m).2.2, backs := (rBack s m).2.2 })) := Lib.hid (by unfold takeMatch; rw [h0])
  have eL : Hid (rTree 8 (tkS s m) m.lens 1 = rLen s m) := Lib.hid rfl
  have eB : Hid (rTree 4 (rLen s m).2.1 m.backs 1 = rBack s m) := Lib.hid rfl
  have eW : Hid (rLow s m = if rN s m = 0 then (0, (rBack s m).2.1) else rEven (rN s m - 1) (rBack s m).2.1 0) := Lib.hid rfl
  have k0 : (0 : Int) ≤ (m.kind : Int) := by omega
  have k2 : (m.kind : Int) < 2 := by have := hm.kind; omega
  simp only [chSl] at Hc
  clear hO hbit hlen hbak hg1 hg2 hr1 hr2 hk0 h0 hs
  generalize hK : m.kind = K at Hc Hb k0 k2
  go_enter Try.func51, Try.ntmps51
  go_wp2
  generalize (w.alloc (.cells #[.int .u8 0, .int .i64 0, .int .i64 0] 39)) = W1 at *
  generalize w.heap.size = X0 at *
  refine wp_region_mix (St B _ W1) [0, 1, 2, 3, 4, 5, 6, 7, 8, 9] [10, 11] mixed (by kernel_rfl) rfl (St.drew B1 o1) ?_
  simp only [List.filterMap_cons, List.filterMap_nil, List.getElem?_toArray, List.getElem?_cons_succ, List.getElem?_cons_zero]
  repeat (first
    | (refine held_val ?_ rfl (fun w1 hS => ?_) ?_
       rotate_left
       · (have cs := Hc.out w1 _ _ _ hS.2.1; rw [hK] at cs; obtain ⟨c0, c11, c9, c10⟩ := cs
          go_simp
          try go_bits
          rfl)
       simp only [Act.put, List.setIfInBounds_toArray, List.set_cons_zero, List.set_cons_succ])
    | (refine held_off rfl ?_
       simp only [Act.put, List.setIfInBounds_toArray, List.set_cons_zero, List.set_cons_succ]))
  refine held_nil (fun w1 hS => ?_)
  obtain ⟨B2, o2, b2⟩ := hS
  have hb2 := b1.trans b2
  clear o1 b1 b2 B1
  have Hb2 := Lib.hid (Hb.out w1 X0 B2 o2)
  clear Hb o2
  go_wp2_with fail
  refine Hb2.out.mono ?_
  rintro e w4 ⟨rfl, o4, b4⟩
  subst hK
  have hb4 := hb2.trans b4
  have B4 := Nat.le_trans B2 b4.size
  have o5 := o4.cast (show _ = Bk X0 39 #[.int .u8 0, .int .i64 0, .int .i64 0] * (Re q (tkS s m) * (MdV p a v { m with kinds := kindsM m 1 } * R)) by
    rw [← mdv_kinds]
    show Re q (tkS s m) * (Cb a.gk (kindsM m 1) * _) = _
    simp only [Cb]
    ac_rfl)
  clear Hb2 hb2 B2 b4 o4
  obtain ⟨_, _, c9, _⟩ := Hc.out w4 _ _ _ o5
  have H5 := Lib.hid (HT1.out w4 X0 B4 o5)
  clear HT1 o5
  go_wp2_with fail
  refine H5.out.mono ?_
  rintro e w7 ⟨rfl, o7, b7⟩
  rw [eL.out] at o7
  have o8 := o7.cast (show _ = Bk X0 39 #[.int .u8 0, .int .i64 0, .int .i64 0] * (Re q (rLen s m).2.1 * (MdV p a v { m with kinds := kindsM m 1, lens := (rLen s m).2.2 } * R)) by
    rw [← mdv_lens (m := { m with kinds := kindsM m 1 })]
    simp only [Cb]
    ac_rfl)
  have hb8 := hb4.trans b7
  have B8 := Nat.le_trans B4 b7.size
  clear o7 b7 hb4 H5 B4 c9
  generalize (rLen s m).1 - 256 = X at *
  have x0 : (0 : Int) ≤ (X : Int) := by omega
  have x1 : (X : Int) < 256 := by omega
  have o9 := o8.new B8 39 #[.int .u8 0, .int .i64 (3 + (X : Int)), .int .i64 1]
  have b9 := hb8.alloc B8 (.cells #[.int .u8 0, .int .i64 (3 + (X : Int)), .int .i64 1] 39)
  have B9 : B ≤ (w7.alloc (.cells #[.int .u8 0, .int .i64 (3 + (X : Int)), .int .i64 1] 39)).heap.size := by simp; omega
  have c10 := (Hc.out _ _ _ _ (o9.assoc')).2.2.2
  have H9 := Lib.hid (HT2.out _ _ inferInstance B9 o9.assoc')
  clear o8 HT2 hb8 o9
  go_wp2_with fail
  refine H9.out.mono ?_
  rintro e w10 ⟨rfl, o10, b10⟩
  rw [eB.out] at o10
  generalize w7.heap.size = Y at *
  have o11 := o10.cast (show _ = Bk Y 39 #[.int .u8 0, .int .i64 (3 + (X : Int)), .int .i64 1] * (Bk X0 39 #[.int .u8 0, .int .i64 0, .int .i64 0] * (Re q (rBack s m).2.1 * (MdV p a v { m with kinds := kindsM m 1, lens := (rLen s m).2.2, backs := (rBack s m).2.2 } * R))) by
    rw [← mdv_backs (m := { m with kinds := kindsM m 1, lens := (rLen s m).2.2 })]
    simp only [Cb]
    ac_rfl)
  have hb11 := b9.trans b10
  have B11 := Nat.le_trans B9 b10.size
  clear o10 b10 b9 H9 B9 c10 Hc
  by_cases hz : rN s m = 0
  · have eT2 : Hid (takeMatch s m = (⟨0, 3 + (X : Int), 1⟩, (rBack s m).2.1, { m with kinds := kindsM m 1, lens := (rLen s m).2.2, backs := (rBack s m).2.2 })) := Lib.hid (by rw [eT.out, eW.out, if_pos hz, if_pos hz])
    clear eT eW HE1
    have eT := eT2
    clear eT2
    rw [hz]
    have g0 : w10.cell? ⟨Y, 0, none⟩ = some (.int .u8 0) := o11.cell 0
    have g1 : w10.cell? ⟨Y, 1, none⟩ = some (.int .i64 (3 + (X : Int))) := o11.cell 1
    have g2 : w10.cell? ⟨Y, 2, none⟩ = some (.int .i64 1) := o11.cell 2
    have p0 : w10.cell? ⟨X0, 0, none⟩ = some (.int .u8 0) := o11.cellOf X0 0
    have p1 : w10.cell? ⟨X0, 1, none⟩ = some (.int .i64 0) := o11.cellOf X0 1
    have p2 : w10.cell? ⟨X0, 2, none⟩ = some (.int .i64 0) := o11.cellOf X0 2
    have v0 := o11.freeOf X0 0
    have v1 := o11.freeOf X0 1
    have v2 := o11.freeOf X0 2
    obtain ⟨os, bs⟩ := (o11.cast (sep_left_comm _ _ _)).set3 B11 (.int .u8 0) (.int .i64 (3 + (X : Int))) (.int .i64 1)
    go_wp2
    refine bodyPost_ret (results_cell_row rfl _ _ X0 39 #[.int .u8 0, .int .i64 (3 + (X : Int)), .int .i64 1] (0, 0) _ rfl os.bk.1 Try.underlying39 rfl (by kernel_rfl)) rfl ?_
    rw [eT.out]
    exact ⟨by simp only [tkL, Int.natCast_zero]; rfl, os.drop.drop, (hb11).trans bs⟩
  · obtain ⟨N1, hN⟩ : ∃ N1, rN s m = N1 + 1 := ⟨rN s m - 1, by omega⟩
    have he := HE1.out
    rw [hN, show N1 + 1 - 1 = N1 by omega] at he
    have hlow : rLow s m = rEven N1 (rBack s m).2.1 0 := by rw [eW.out, if_neg hz, hN, show N1 + 1 - 1 = N1 by omega]
    have hlt := rEven_lt N1 (rBack s m).2.1 0
    have eT2 : Hid (takeMatch s m = (⟨0, 3 + (X : Int), 1 + ((2 ^ N1 + (rEven N1 (rBack s m).2.1 0).1 : Nat) : Int)⟩, (rEven N1 (rBack s m).2.1 0).2, { m with kinds := kindsM m 1, lens := (rLen s m).2.2, backs := (rBack s m).2.2 })) := Lib.hid (by rw [eT.out, hlow, if_neg hz, hN, show N1 + 1 - 1 = N1 by omega])
    clear eT eW HE1 hlow
    have eT := eT2
    clear eT2 hz
    rw [hN] at l15 ⊢
    have n0 : (0 : Int) ≤ (N1 : Int) := by omega
    have n1 : (N1 : Int) ≤ 14 := by omega
    have hor := or_pow N1 (rEven N1 (rBack s m).2.1 0).1 (by omega) (by simpa using hlt)
    have hwp := wrap_pow N1 (by omega)
    have hp14 : 2 ^ N1 ≤ 2 ^ 14 := Nat.pow_le_pow_right (by omega) (show N1 ≤ 14 by omega)
    have hev : evenRes N1 (rBack s m).2.1 = ((rEven N1 (rBack s m).2.1 0).1 : Int) := rfl
    rw [hev] at he
    have HE := Lib.hid he
    rw [Nat.zero_add, Nat.one_mul] at hlt
    clear he hN hev
    generalize hre : rEven N1 (rBack s m).2.1 0 = re at *
    obtain ⟨re1, re2⟩ := re
    generalize 2 ^ N1 = P at *
    simp only at hor hlt
    have p0' : (0 : Int) ≤ (P : Int) := by omega
    have p1' : (P : Int) ≤ 16384 := by omega
    have e0' : (0 : Int) ≤ (re1 : Int) := by omega
    have e1' : (re1 : Int) ≤ 16384 := by omega
    have hpe : ((P + re1 : Nat) : Int) = (P : Int) + (re1 : Int) := by omega
    rw [hpe] at hor
    have Hre := Lib.hid hre
    clear hre hlt hp14
    go_wp2
    refine wp_region_umix (St B _ w10) [0, 1, 2] [3, 4, 5] [6, 7, 8, 9, 10] mixed (by kernel_rfl) rfl (fun _ _ _ _ _ h => h) (St.drew B11 o11) ?_
    simp only [List.filterMap_cons, List.filterMap_nil, List.getElem?_toArray, List.getElem?_cons_succ, List.getElem?_cons_zero]
    repeat (
      refine free_val ?_ rfl (fun w1 => ?_) ?_
      rotate_left
      · (go_simp
         try go_bits
         rfl)
      simp only [Act.put, List.setIfInBounds_toArray, List.set_cons_zero, List.set_cons_succ])
    refine free_nil ?_
    rw [hwp]
    repeat (first
      | (refine held_val ?_ rfl (fun w1 hS => ?_) ?_
         rotate_left
         · (skip
            go_simp
            try go_bits
            rfl)
         simp only [Act.put, List.setIfInBounds_toArray, List.set_cons_zero, List.set_cons_succ])
      | (refine held_off rfl ?_
         simp only [Act.put, List.setIfInBounds_toArray, List.set_cons_zero, List.set_cons_succ]))
    refine held_nil (fun w12 hS => ?_)
    obtain ⟨B12, o12, b12⟩ := hS
    have hb12 := hb11.trans b12
    have H12 := Lib.hid (HE.out w12 _ inferInstance B12 o12.assoc')
    clear HE o12 b12 hb11 o11 B11
    go_wp2_with fail
    refine H12.out.mono ?_
    rintro e w13 ⟨rfl, o13, b13⟩
    have o14 := o13.cast (show _ = Bk Y 39 #[.int .u8 0, .int .i64 (3 + (X : Int)), .int .i64 1] * (Bk X0 39 #[.int .u8 0, .int .i64 0, .int .i64 0] * (Re q re2 * (MdV p a v { m with kinds := kindsM m 1, lens := (rLen s m).2.2, backs := (rBack s m).2.2 } * R))) by ac_rfl)
    have hb14 := hb12.trans b13
    have B14 := Nat.le_trans B12 b13.size
    have y2 : w13.cell? ⟨Y, 2, none⟩ = some (.int .i64 1) := o14.cell 2
    have y2f := o14.unfrozen 2
    have o15 := o14.set B14 2 (.int .i64 (1 + ((P : Int) + (re1 : Int))))
    have b15 := o14.below_set 2 (.int .i64 (1 + ((P : Int) + (re1 : Int))))
    have hb15 := hb14.trans b15
    have B15 := Nat.le_trans B14 b15.size
    clear o13 b13 hb12 H12 B12 b15
    have eT3 : Hid (takeMatch s m = (⟨0, 3 + (X : Int), 1 + ((P : Int) + (re1 : Int))⟩, re2, { m with kinds := kindsM m 1, lens := (rLen s m).2.2, backs := (rBack s m).2.2 })) := Lib.hid (by rw [eT.out, hpe])
    clear eT o14 hb14 B14 hpe
    have eT := eT3
    clear eT3
    have g0 : (w13.setCell ⟨Y, 2, none⟩ (.int .i64 (1 + ((P : Int) + (re1 : Int))))).cell? ⟨Y, 0, none⟩ = some (.int .u8 0) := o15.cell 0
    have g1 : (w13.setCell ⟨Y, 2, none⟩ (.int .i64 (1 + ((P : Int) + (re1 : Int))))).cell? ⟨Y, 1, none⟩ = some (.int .i64 (3 + (X : Int))) := o15.cell 1
    have g2 : (w13.setCell ⟨Y, 2, none⟩ (.int .i64 (1 + ((P : Int) + (re1 : Int))))).cell? ⟨Y, 2, none⟩ = some (.int .i64 (1 + ((P : Int) + (re1 : Int)))) := o15.cell 2
    have p0 : (w13.setCell ⟨Y, 2, none⟩ (.int .i64 (1 + ((P : Int) + (re1 : Int))))).cell? ⟨X0, 0, none⟩ = some (.int .u8 0) := o15.cellOf X0 0
    have p1 : (w13.setCell ⟨Y, 2, none⟩ (.int .i64 (1 + ((P : Int) + (re1 : Int))))).cell? ⟨X0, 1, none⟩ = some (.int .i64 0) := o15.cellOf X0 1
    have p2 : (w13.setCell ⟨Y, 2, none⟩ (.int .i64 (1 + ((P : Int) + (re1 : Int))))).cell? ⟨X0, 2, none⟩ = some (.int .i64 0) := o15.cellOf X0 2
    have v0 := o15.freeOf X0 0
    have v1 := o15.freeOf X0 1
    have v2 := o15.freeOf X0 2
    obtain ⟨os, bs⟩ := (o15.cast (sep_left_comm _ _ _)).set3 B15 (.int .u8 0) (.int .i64 (3 + (X : Int))) (.int .i64 (1 + ((P : Int) + (re1 : Int))))
    go_wp2
    refine bodyPost_ret (results_cell_row rfl _ _ X0 39 #[.int .u8 0, .int .i64 (3 + (X : Int)), .int .i64 (1 + ((P : Int) + (re1 : Int)))] (0, 0) _ rfl os.bk.1 Try.underlying39 rfl (by kernel_rfl)) rfl ?_
    rw [eT.out]
    exact ⟨by simp only [tkL, Int.natCast_zero]; rfl, os.drop.drop, (hb15).trans bs⟩
end Go.Proofs.Ytedcficjmogohaa

/- put and saw of pack's model, of whatever token may stand; what Write tells: plain. -/
namespace Go.Proofs.Ytedcficjmogohaa
set_option linter.unusedVariables false
set_option linter.unusedSimpArgs false
set_option maxRecDepth 100000
open Go.RowKit

theorem putm_any (p q : Nat) (a : MA) (v : Value) (m : MS) (hm : m.ok) (hl : m.out.length ≤ 70000) (t : Tk) (ht : rightP t) (s : WS) (r : Int) (hr : 0 ≤ r) (hs : s.gd (r + 28)) (B : Nat) (R : HP) [Loc B R] (w : World) (hB : B ≤ w.heap.size) (hO : Own B (Wr q s * (MdV p a v m * R)) w) :
    Calls Try.prog 33 #[.pointer (some ⟨p, 0, none⟩), .pointer (some ⟨q, 0, none⟩), .agg (tkL t).toArray] w (Ret B w (.tuple #[]) (Wr q (putT s m t).1 * (MdV p a v (putT s m t).2 * R))) := by
  obtain ⟨lit, len, back⟩ := t
  unfold putT
  rcases ht with ⟨h1, h2⟩ | ⟨h1, h2, h3, h4, h5⟩
  · simp only at h1 h2
    subst h1; subst h2
    rw [if_pos rfl]
    exact put_lit p q a v m hm hl lit s r hr (hs.less (by omega)) B R w hB hO
  · simp only at h1 h2 h3 h4 h5
    subst h5
    obtain ⟨n, rfl⟩ : ∃ n : Nat, len = (n : Int) := ⟨len.toNat, by omega⟩
    obtain ⟨bk, rfl⟩ : ∃ n : Nat, back = (n : Int) := ⟨back.toNat, by omega⟩
    rw [if_neg (by simp only; omega)]
    exact put_match p q a v m hm n bk (by omega) (by omega) s r hr hs B R w hB hO
theorem sawm_any (p : Nat) (a : MA) (v : Value) (m : MS) (t : Tk) (N : Int) (hN : N ≤ 65536) (ht : fitsP m.out t N) (B : Nat) (R : HP) [Loc B R] (w : World) (hB : B ≤ w.heap.size) (hO : Own B (MdV p a v m * R) w) :
    Calls Try.prog 34 #[.pointer (some ⟨p, 0, none⟩), .agg (tkL t).toArray] w (Ret B w (.tuple #[]) (Md p a (sawM m t) * R)) := by
  obtain ⟨lit, len, back⟩ := t
  obtain ⟨ht, hb, hn⟩ := ht
  rcases ht with ⟨h1, h2⟩ | ⟨h1, h2, h3, h4, h5⟩
  · simp only at h1 h2
    subst h1; subst h2
    have : (1 : Int) ≤ maxT ⟨lit, 0, 0⟩ := by unfold maxT; simp
    exact saw_lit p a v m (by omega) lit B R w hB hO
  · simp only at h1 h2 h3 h4 h5 hb
    subst h5
    obtain ⟨n, rfl⟩ : ∃ n : Nat, len = (n : Int) := ⟨len.toNat, by omega⟩
    obtain ⟨bk, rfl⟩ : ∃ n : Nat, back = (n : Int) := ⟨back.toNat, by omega⟩
    have : maxT ⟨0, n, bk⟩ = (n : Int) := by unfold maxT; rw [if_neg (by simp only; omega)]
    exact saw_match p a v m n bk (by omega) (by omega) (by omega) (by omega) B R w hB hO
theorem putT_ok {s : WS} {m : MS} {room : Int} {t : Tk} (ht : rightP t) (hr : 0 ≤ room) (hm : m.ok) (h : s.gd (room + 28)) : (putT s m t).1.gd room ∧ (putT s m t).2.ok ∧ (putT s m t).2.out = m.out := by
  unfold putT
  rcases ht with ⟨h1, h2⟩ | ⟨h1, h2, h3, h4, h5⟩
  · rw [if_pos h1]
    exact ⟨(putLit_ok _ hr hm (h.less (by omega))).1, (putLit_ok _ hr hm (h.less (by omega))).2, rfl⟩
  · rw [if_neg (by omega)]
    have := putMatch_ok (s := s) (m := m) t.len.toNat t.back.toNat (by omega) hr hm h
    exact ⟨this.1, this.2, rfl⟩
theorem sawM_ok {m : MS} (hm : m.ok) (t : Tk) : (sawM m t).ok := ⟨hm.kinds, hm.lits, hm.lens, hm.backs, by unfold sawM; simp only; split <;> omega, hm.ckinds, hm.clits, hm.clens, hm.cbacks⟩
/-- A token behind the others, if it may stand. -/
def wrT (x : WS × MS) (t : Tk) : WS × MS := if fitsP x.2.out t 65536 then ((putT x.1 x.2 t).1, sawM (putT x.1 x.2 t).2 t) else x
def wrN (l : List Tk) : WS × MS := l.foldl wrT (begin0, ms0)
def writeN (l : List Tk) : List Int := (endS (wrN l).1).out
theorem wrT_ok {x : WS × MS} {t : Tk} {room : Int} (hr : 0 ≤ room) (h : x.1.gd (room + 28)) (hm : x.2.ok) : (wrT x t).1.gd room ∧ (wrT x t).2.ok := by
  unfold wrT
  split
  · rename_i hf
    have := putT_ok hf.1 hr hm h
    exact ⟨this.1, sawM_ok this.2.1 t⟩
  · exact ⟨h.less (by omega), hm⟩
theorem wrT_out {x : WS × MS} {t : Tk} (hm : x.2.ok) (h : (x.2.out.length : Int) ≤ 65536) : ((wrT x t).2.out.length : Int) ≤ 65536 := by
  unfold wrT
  split
  · rename_i hf
    have h2 := sawT_len x.2.out t hf.1
    have : (putT x.1 x.2 t).2.out = x.2.out := by unfold putT; split <;> rfl
    show ((sawT (putT x.1 x.2 t).2.out t).length : Int) ≤ 65536
    rw [this, h2]
    exact hf.2.2
  · exact h
theorem wrN_snoc (l : List Tk) (t : Tk) : wrN (l ++ [t]) = wrT (wrN l) t := by unfold wrN; rw [List.foldl_append]; rfl
end Go.Proofs.Ytedcficjmogohaa

/- The walk over Write of package pack. -/
namespace Go.Proofs.Ytedcficjmogohaa
set_option linter.unusedVariables false
set_option linter.unusedSimpArgs false
set_option maxRecDepth 100000
open Go.RowKit

theorem wrN_gd (l : List Tk) (room : Int) (hr : 0 ≤ room) (hl : room + 28 * (l.length : Int) ≤ 1099511627776) : (wrN l).1.gd room ∧ (wrN l).2.ok ∧ ((wrN l).2.out.length : Int) ≤ 65536 := by
  have h : ∀ (n : Nat) (l : List Tk), l.length = n → ∀ room : Int, 0 ≤ room → room + 28 * (l.length : Int) ≤ 1099511627776 → (wrN l).1.gd room ∧ (wrN l).2.ok ∧ ((wrN l).2.out.length : Int) ≤ 65536 := by
    intro n
    induction n with
    | zero =>
      intro l hl room hr h
      obtain rfl : l = [] := List.eq_nil_of_length_eq_zero hl
      exact ⟨begin0_gd room hr (by simp at h; omega), ms0_ok, by show ((0 : Nat) : Int) ≤ _; omega⟩
    | succ n ih =>
      intro l hl room hr h
      have hne : l ≠ [] := by intro e; subst e; simp at hl
      have e := List.dropLast_concat_getLast hne
      have hd : l.dropLast.length = n := by rw [List.length_dropLast]; omega
      obtain ⟨k1, k2, k3⟩ := ih l.dropLast hd (room + 28) (by omega) (by rw [hd]; rw [hl] at h; omega)
      rw [← e, wrN_snoc]
      have := wrT_ok (t := l.getLast hne) hr k1 k2
      exact ⟨this.1, this.2, wrT_out k2 k3⟩
  exact h l.length l rfl room hr hl

def RetW (w : World) (l : List Int) (e : Ending) (w' : World) : Prop := ∃ v, e = .returned v ∧ w'.ownsRow w.heap.size 5 1 v l.length (bytesV l) ∧ Below w.heap.size w w'
set_option maxHeartbeats 6400000 in
theorem write_any (A : Option Addr) (c : Nat) (l : List Tk) (hl : l.length ≤ 4294967296) (w : World) (hr : RdA 3 tkL w A l) :
    Calls Try.prog 17 #[.slice A l.length c] w (RetW w (writeN l)) := by
  have Hr := Lib.hid (fun w1 (b : Below w.heap.size w w1) => hr.below b)
  have hb0 := Below.refl w.heap.size w
  have n1 : (l.length : Int) ≤ 4294967296 := by omega
  have hO := Own.start w.heap.size w
  have HG := Lib.hid (fun i (hi : i ≤ l.length) => wrN_gd (l.take i) (28 * ((l.length : Int) - (i : Int)) + 100) (by omega) (by rw [List.length_take, Nat.min_eq_left hi]; omega))
  have HB := Lib.hid (begin_any w.heap.size Emp w (Nat.le_refl _) hO)
  clear hr hO
  go_enter Try.func17, Try.ntmps17
  go_wp2_with fail
  refine HB.out.mono ?_
  rintro e w1 ⟨q, rfl, o1, b1⟩
  have hb1 := hb0.trans b1
  have B1 := b1.size
  clear HB hb0 b1
  go_wp2_with fail
  refine (mbegin_any w.heap.size _ w1 B1 o1).mono ?_
  rintro e w2 ⟨p, a, rfl, o2, b2⟩
  have hb2 := hb1.trans b2
  clear o1 b2 hb1 B1
  go_wp2
  go_loopg [11] l.length (fun k u wr => ∃ i : Nat, k + i = l.length ∧ u = .int .i64 (i : Int) ∧ Below w.heap.size w wr ∧ Own w.heap.size (Wr q (wrN (l.take i)).1 * (Md p a (wrN (l.take i)).2 * Emp)) wr)
  case atStart => exact ⟨0, by omega, rfl, hb2, o2.cast (by rw [List.take_zero]; exact sep_left_comm _ _ _)⟩
  case round =>
    clear o2 hb2
    obtain ⟨i, hk, rfl, hb, ho⟩ := hrel
    have i0 : (0 : Int) ≤ (i : Int) := by omega
    obtain ⟨g1, g2, g3⟩ := HG.out i (by omega)
    obtain ⟨v, ho⟩ := (ho.cast (sep_left_comm _ _ _)).hex
    have ho := ho.cast (sep_left_comm _ _ _)
    have Bw := hb.size
    by_cases hlt : (i : Int) < (l.length : Int)
    · obtain ⟨j, rfl⟩ : ∃ j, gk = j + 1 := ⟨gk - 1, by omega⟩
      have hil : i < l.length := by omega
      obtain ⟨b, off, rfl, _, d⟩ := Hr.out _ hb i hil
      have Hs : Hid (wrN (l.take (i + 1)) = wrT (wrN (l.take i)) l[i]) := Lib.hid (by rw [List.take_succ_eq_append_getElem hil, wrN_snoc])
      have Hk := Lib.hid hk
      have hg1 := g1.less (show (28 : Int) + 28 ≤ 28 * ((l.length : Int) - (i : Int)) + 100 by omega)
      clear hk g1
      generalize l[i] = t at *
      generalize wrN (l.take i) = x at *
      obtain ⟨s, m⟩ := x
      simp only at g2 g3 hg1 ho
      obtain ⟨d0, d1, d2⟩ := RdA.cells3 d
      clear d
      have o3 := ho.new Bw 39 #[.int .u8 (t.lit.toNat : Int), .int .i64 t.len, .int .i64 t.back]
      have b3 := hb.alloc Bw (.cells #[.int .u8 (t.lit.toNat : Int), .int .i64 t.len, .int .i64 t.back] 39)
      have HF := Lib.hid (fun w1 B1 (h : Own w.heap.size (Bk wr.heap.size 39 #[.int .u8 (t.lit.toNat : Int), .int .i64 t.len, .int .i64 t.back] * (Wr q s * (MdV p a v m * Emp))) w1) =>
        fits_any p a v m (by omega) t 65536 (by omega) (by omega) w.heap.size (Bk wr.heap.size 39 #[.int .u8 (t.lit.toNat : Int), .int .i64 t.len, .int .i64 t.back] * (Wr q s * Emp)) w1 B1 (h.cast (by ac_rfl)))
      simp only [tkL] at HF
      clear ho
      generalize hX0 : wr.heap.size = X0 at *
      go_wp2_with fail
      refine (HF.out _ b3.size o3).mono ?_
      rintro e w4 ⟨rfl, o4, b4⟩
      have hb4 := b3.trans b4
      have B4 := hb4.size
      have o5 := o4.cast (show _ = Bk X0 39 #[.int .u8 (t.lit.toNat : Int), .int .i64 t.len, .int .i64 t.back] * (Wr q s * (MdV p a v m * Emp)) by ac_rfl)
      clear HF o3 b3 o4 b4 d0 d1 d2
      have x0 : w4.cell? ⟨X0, 0, none⟩ = some (.int .u8 (t.lit.toNat : Int)) := o5.cell 0
      have x1 : w4.cell? ⟨X0, 1, none⟩ = some (.int .i64 t.len) := o5.cell 1
      have x2 : w4.cell? ⟨X0, 2, none⟩ = some (.int .i64 t.back) := o5.cell 2
      by_cases hf : fitsP m.out t 65536
      · have hft : fitsT m.out t 65536 = true := decide_eq_true hf
        rw [hft]
        have Hw : Hid (wrT (s, m) t = ((putT s m t).1, sawM (putT s m t).2 t)) := Lib.hid (by unfold wrT; rw [if_pos hf])
        have hpo := putT_ok (t := t) hf.1 (room := 28) (by omega) g2 hg1
        have HP := Lib.hid (putm_any p q a v m g2 (by omega) t hf.1 s 28 (by omega) hg1 w.heap.size (Bk X0 39 #[.int .u8 (t.lit.toNat : Int), .int .i64 t.len, .int .i64 t.back] * Emp) w4 B4 (o5.cast (by ac_rfl)))
        have HS := Lib.hid (fun w1 B1 (h : Own w.heap.size (Wr q (putT s m t).1 * (MdV p a v (putT s m t).2 * (Bk X0 39 #[.int .u8 (t.lit.toNat : Int), .int .i64 t.len, .int .i64 t.back] * Emp))) w1) =>
          sawm_any p a v (putT s m t).2 t 65536 (by omega) (by rw [hpo.2.2]; exact hf) w.heap.size (Wr q (putT s m t).1 * (Bk X0 39 #[.int .u8 (t.lit.toNat : Int), .int .i64 t.len, .int .i64 t.back] * Emp)) w1 B1 (h.cast (by ac_rfl)))
        simp only [tkL] at HP HS
        clear hpo hf hft g2 g3 hg1 o5
        generalize putT s m t = y at *
        obtain ⟨s', m'⟩ := y
        simp only at HP HS Hw
        go_wp2_with fail
        refine HP.out.mono ?_
        rintro e w6 ⟨rfl, o6, b6⟩
        have hb6 := hb4.trans b6
        have B6 := hb6.size
        have o7 := o6.cast (show _ = Bk X0 39 #[.int .u8 (t.lit.toNat : Int), .int .i64 t.len, .int .i64 t.back] * (Wr q s' * (MdV p a v m' * Emp)) by ac_rfl)
        have H7 := Lib.hid (HS.out w6 B6 o6)
        clear HP HS o6 b6 hb4 B4 x0 x1 x2
        have x0 : w6.cell? ⟨X0, 0, none⟩ = some (.int .u8 (t.lit.toNat : Int)) := o7.cell 0
        have x1 : w6.cell? ⟨X0, 1, none⟩ = some (.int .i64 t.len) := o7.cell 1
        have x2 : w6.cell? ⟨X0, 2, none⟩ = some (.int .i64 t.back) := o7.cell 2
        clear o7
        go_wp2_with fail
        refine H7.out.mono ?_
        rintro e w8 ⟨rfl, o8, b8⟩
        have hb8 := hb6.trans b8
        have O9 := Lib.hid (Own.drop (o8.cast (show _ = Bk X0 39 #[.int .u8 (t.lit.toNat : Int), .int .i64 t.len, .int .i64 t.back] * (Wr q s' * (Md p a (sawM m' t) * Emp)) by ac_rfl)))
        clear o8 b8 hb6 H7
        go_wp2
        go_roundg j
        case measure => omega
        case rel => exact ⟨i + 1, by have := Hk.out; omega, rfl, hb8, by rw [Hs.out, Hw.out]; exact O9.out⟩
      · have hft : fitsT m.out t 65536 = false := decide_eq_false hf
        rw [hft]
        have Hw : Hid (wrT (s, m) t = (s, m)) := Lib.hid (by unfold wrT; rw [if_neg hf])
        have O9 := Lib.hid (((o5.drop.cast (sep_left_comm _ _ _)).to_hex (A := fun v => MdV p a v m) v).cast (sep_left_comm _ _ _))
        clear o5 hf hft
        go_wp2
        go_roundg j
        case measure => omega
        case rel => exact ⟨i + 1, by have := Hk.out; omega, rfl, hb4, by rw [Hs.out, Hw.out]; exact O9.out⟩
    · obtain rfl : i = l.length := by omega
      rw [List.take_length] at ho g1
      have HE := Lib.hid (end_live q (wrN l).1 w.heap.size (MdV p a v (wrN l).2 * Emp) wr Bw ⟨g1.live.ok, by have := g1.live.room; omega⟩ g1.live.dn ho)
      go_wp2_with fail
      refine HE.out.mono ?_
      rintro e w9 ⟨v9, rfl, o9, b9⟩
      have hb9 := hb.trans b9
      have O9 := Lib.hid o9
      clear o9
      go_wp2
      go_ret
      exact ⟨v9, rfl, O9.out.row, hb9⟩
end Go.Proofs.Ytedcficjmogohaa
