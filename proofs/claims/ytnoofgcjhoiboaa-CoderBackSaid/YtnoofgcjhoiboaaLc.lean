/- What was put is taken: the steps of a law, by the law of one bit. -/
import Derived.Test.YtnoofgcjhoiboaaLb
import Derived.Test.YtnoofgcjhoiboaaDo
namespace Go.Proofs.Ytnoofgcjhoiboaa
set_option linter.unusedVariables false
set_option linter.unusedSimpArgs false
open Go.RowKit

def rOf (s : WS) : RW := ⟨s.told, s.low % 4294967296, s.width⟩
theorem rel_rOf (s : WS) : Rel s (rOf s) := ⟨rfl, rfl, rfl⟩
theorem rel_eq {s : WS} {r : RW} (h : Rel s r) : rOf s = r := by
  obtain ⟨out, low, width⟩ := r
  obtain ⟨h1, h2, h3⟩ := h
  simp only at h1 h2 h3
  unfold rOf
  rw [h1, h2, h3]

structure WS.gd (s : WS) (room : Int) : Prop where
  live : s.live room
  calm : s.calm
  good : (rOf s).good room
theorem WS.gd.less {s : WS} {r r' : Int} (h : s.gd r) (hr : r' ≤ r) : s.gd r' :=
  ⟨h.live.less hr, h.calm, ⟨⟨h.good.ok.bytes, by have := h.good.ok.len; omega, h.good.ok.low0, h.good.ok.low1, h.good.ok.width0, h.good.ok.width1, h.good.ok.sum⟩, h.good.fit⟩⟩
theorem putS_gd {s : WS} {b : Int} (bit : Int) {room : Int} (hr : 0 ≤ room) (g : s.gd (room + 1)) (b0 : 65536 ≤ b) (b1 : b + 65536 ≤ s.width) : (putS s b bit).gd room ∧ rOf (putS s b bit) = rput (rOf s) b bit := by
  obtain ⟨h1, h2⟩ := put_rel bit g.live g.calm (rel_rOf s) b0 b1
  have e := rel_eq h1
  exact ⟨⟨putS_live bit hr g.live b0 b1, h2, by rw [e]; exact put_good bit g.good b0 b1⟩, e⟩
theorem begin0_gd (r : Int) (h0 : 0 ≤ r) (h1 : r ≤ 1099511627776) : begin0.gd r := by
  refine ⟨begin0_live r h1 h0, begin_rel.2, ?_⟩
  rw [rel_eq begin_rel.1]
  exact ⟨⟨by intro c hc; simp at hc, by show ((0 : Nat) : Int) + r ≤ _; omega, by show (0 : Int) ≤ 0; omega, by show (0 : Int) < 4294967296; omega, by show (0 : Int) ≤ 4294967295; omega, by show (4294967295 : Int) < 4294967296; omega, by show (0 : Int) + 4294967295 < 8589934592; omega⟩, by show (0 : Int) * 4294967296 + 0 + 4294967295 ≤ (256 : Int) ^ 4; decide⟩

/-- The number that bits make, behind a. -/
def val : Nat → List Int → Nat
  | a, [] => a
  | a, b :: l => val (2 * a + b.toNat) l
def bitsL (l : List Int) : Prop := ∀ b ∈ l, b = 0 ∨ b = 1
theorem bitsOf_bits (n : Int) (m : Nat) : bitsL (bitsOf n m) := by
  intro b hb
  obtain ⟨k, _, rfl⟩ := List.mem_map.1 hb
  exact bitOf_01 n k
theorem mod_pow_succ (n : Int) (m : Nat) : n % 2 ^ (m + 1) = bitOf n m * 2 ^ m + n % 2 ^ m := by
  have hp : (0 : Int) < 2 ^ m := by
    have : ∀ k : Nat, (0 : Int) < 2 ^ k := fun k => by
      induction k with
      | zero => decide
      | succ k ih => rw [Int.pow_succ]; omega
    exact this m
  have h1 := Int.emod_nonneg n (Int.ne_of_gt hp)
  have h2 := Int.emod_lt_of_pos n hp
  have h3 := Int.mul_ediv_add_emod n (2 ^ m)
  have hb : bitOf n m = n / 2 ^ m % 2 := rfl
  have h4 : n / 2 ^ m = 2 * (n / 2 ^ m / 2) + bitOf n m := by rw [hb]; omega
  have hb01 := bitOf_01 n m
  rw [Int.pow_succ]
  generalize n / 2 ^ m / 2 = z at h4
  generalize bitOf n m = b at h4 hb01 ⊢
  generalize hq : n / 2 ^ m = q at h3 h4
  generalize hy : n % 2 ^ m = y at h1 h2 h3 ⊢
  generalize (2 : Int) ^ m = P at hp h1 h2 h3 ⊢
  have e : n = (b * P + y) + (P * 2) * z := by
    rw [← h3, h4, Int.mul_add, Int.mul_comm P b, ← Int.mul_assoc, Int.mul_comm]
    have : P * 2 * z = z * (P * 2) := Int.mul_comm _ _
    omega
  rw [e, Int.add_mul_emod_self_left]
  rcases hb01 with rfl | rfl
  · exact Int.emod_eq_of_lt (by omega) (by omega)
  · exact Int.emod_eq_of_lt (by omega) (by omega)
theorem val_bitsOf (n : Int) : ∀ (m a : Nat), ((val a (bitsOf n m) : Nat) : Int) = (a : Int) * 2 ^ m + n % 2 ^ m
  | 0, a => by
    show ((a : Nat) : Int) = _
    rw [Int.pow_zero]
    omega
  | m + 1, a => by
    rw [bitsOf_succ]
    show ((val (2 * a + (bitOf n m).toNat) (bitsOf n m) : Nat) : Int) = _
    rw [val_bitsOf n m, mod_pow_succ, Int.pow_succ]
    have hb := bitOf_01 n m
    generalize bitOf n m = b at hb ⊢
    generalize n % 2 ^ m = y
    generalize (2 : Int) ^ m = P
    have e : ((2 * a + b.toNat : Nat) : Int) = 2 * (a : Int) + b := by omega
    rw [e, Int.add_mul]
    have : (a : Int) * (P * 2) = 2 * (a : Int) * P := by rw [Int.mul_comm P 2, ← Int.mul_assoc, Int.mul_comm (a : Int) 2]
    omega

theorem ev_in {s : WS} {room : Int} (h : s.gd room) : 65536 ≤ s.width / 2 ∧ s.width / 2 + 65536 ≤ s.width := by have := h.live.wide; omega

theorem even_gd : ∀ (l : List Int) (s : WS) (room : Int), 0 ≤ room → s.gd (room + l.length) → (evenS s l).gd room
  | [], s, room, _, h => by simpa [evenS] using h
  | b :: l, s, room, hr, h => by
    have e : room + ((b :: l).length : Int) = (room + l.length) + 1 := by simp; omega
    rw [e] at h
    exact even_gd l _ room hr (putS_gd b (by omega) h (ev_in h).1 (ev_in h).2).1
theorem even_pt {rT : RW} : ∀ (l : List Int) (s : WS) (room : Int), 0 ≤ room → s.gd (room + l.length) → Pt (rOf (evenS s l)) rT → Pt (rOf s) rT
  | [], s, room, _, _, h => h
  | b :: l, s, room, hr, g, h => by
    have e : room + ((b :: l).length : Int) = (room + l.length) + 1 := by simp; omega
    rw [e] at g
    obtain ⟨g1, e1⟩ := putS_gd b (by omega) g (ev_in g).1 (ev_in g).2
    have := even_pt l _ room hr g1 h
    rw [e1] at this
    exact pt_back b g.good (ev_in g).1 (ev_in g).2 this
theorem even_dec {rT : RW} {roomT : Int} (gT : rT.ok roomT) : ∀ (l : List Int) (s : WS) (q : RS) (a : Nat) (room : Int), 0 ≤ room → bitsL l → s.gd (room + l.length) → Pt (rOf (evenS s l)) rT → Dec (rOf s) q (rend rT) →
    (rEven l.length q a).1 = val a l ∧ Dec (rOf (evenS s l)) (rEven l.length q a).2 (rend rT)
  | [], s, q, a, room, _, _, _, _, hd => ⟨rfl, hd⟩
  | b :: l, s, q, a, room, hr, hb, g, hp, hd => by
    have e : room + ((b :: l).length : Int) = (room + l.length) + 1 := by simp; omega
    rw [e] at g
    obtain ⟨g1, e1⟩ := putS_gd b (by omega) g (ev_in g).1 (ev_in g).2
    have hp1 := even_pt l _ room hr g1 hp
    rw [e1] at hp1
    have hw : q.width = s.width := hd.width
    obtain ⟨h1, h2⟩ := dec_step g.good gT (ev_in g).1 (ev_in g).2 (hb b List.mem_cons_self) hp1 hd
    rw [← e1] at h2
    have := even_dec gT l _ (takeS q (s.width / 2)) (2 * a + b.toNat) room hr (fun x hx => hb x (List.mem_cons_of_mem _ hx)) g1 hp h2
    show (rEven l.length (takeS q (q.width / 2)) (2 * a + (takeBit q (q.width / 2)).toNat)).1 = _ ∧ Dec _ (rEven l.length (takeS q (q.width / 2)) (2 * a + (takeBit q (q.width / 2)).toNat)).2 _
    rw [hw, h1]
    exact this

theorem tree_gd : ∀ (l : List Int) (s : WS) (cl : List Int) (a : Nat) (room : Int), 0 ≤ room → chOk cl → s.gd (room + l.length) → (treeS s cl a l).1.gd room ∧ chOk (treeS s cl a l).2 ∧ (treeS s cl a l).2.length = cl.length
  | [], s, cl, a, room, _, hc, h => ⟨by simpa [treeS] using h, hc, rfl⟩
  | b :: l, s, cl, a, room, hr, hc, h => by
    have e : room + ((b :: l).length : Int) = (room + l.length) + 1 := by simp; omega
    rw [e] at h
    have hb := bitBound_in h.live (chOk_get hc a)
    have h2 : chOk (cl.set a (sawN (cl.getD a 0) b)) := chOk_set hc _ _ (sawN_ok _ _ (chOk_get hc a))
    obtain ⟨x, y, z⟩ := tree_gd l _ _ (2 * a + b.toNat) room hr h2 (putS_gd b (by omega) h hb.1 hb.2).1
    exact ⟨x, y, by rw [show treeS s cl a (b :: l) = treeS _ _ _ l from rfl, z]; simp⟩
theorem tree_pt {rT : RW} : ∀ (l : List Int) (s : WS) (cl : List Int) (a : Nat) (room : Int), 0 ≤ room → chOk cl → s.gd (room + l.length) → Pt (rOf (treeS s cl a l).1) rT → Pt (rOf s) rT
  | [], _, _, _, _, _, _, _, h => h
  | b :: l, s, cl, a, room, hr, hc, g, h => by
    have e : room + ((b :: l).length : Int) = (room + l.length) + 1 := by simp; omega
    rw [e] at g
    have hb := bitBound_in g.live (chOk_get hc a)
    have h2 : chOk (cl.set a (sawN (cl.getD a 0) b)) := chOk_set hc _ _ (sawN_ok _ _ (chOk_get hc a))
    obtain ⟨g1, e1⟩ := putS_gd b (by omega) g hb.1 hb.2
    have := tree_pt l _ _ (2 * a + b.toNat) room hr h2 g1 h
    rw [e1] at this
    exact pt_back b g.good hb.1 hb.2 this
theorem tree_dec {rT : RW} {roomT : Int} (gT : rT.ok roomT) : ∀ (l : List Int) (s : WS) (q : RS) (cl : List Int) (a : Nat) (room : Int), 0 ≤ room → bitsL l → chOk cl → s.gd (room + l.length) → Pt (rOf (treeS s cl a l).1) rT → Dec (rOf s) q (rend rT) →
    (rTree l.length q cl a).1 = val a l ∧ (rTree l.length q cl a).2.2 = (treeS s cl a l).2 ∧ Dec (rOf (treeS s cl a l).1) (rTree l.length q cl a).2.1 (rend rT)
  | [], s, q, cl, a, room, _, _, _, _, _, hd => ⟨rfl, rfl, hd⟩
  | b :: l, s, q, cl, a, room, hr, hb, hc, g, hp, hd => by
    have e : room + ((b :: l).length : Int) = (room + l.length) + 1 := by simp; omega
    rw [e] at g
    have hbd := bitBound_in g.live (chOk_get hc a)
    have h2 : chOk (cl.set a (sawN (cl.getD a 0) b)) := chOk_set hc _ _ (sawN_ok _ _ (chOk_get hc a))
    obtain ⟨g1, e1⟩ := putS_gd b (by omega) g hbd.1 hbd.2
    have hp1 := tree_pt l _ _ (2 * a + b.toNat) room hr h2 g1 hp
    rw [e1] at hp1
    have hw : rBound q (cl.getD a 0) = bitBound s (cl.getD a 0) := by unfold rBound bitBound; rw [show q.width = s.width from hd.width]
    obtain ⟨k1, k2⟩ := dec_step g.good gT hbd.1 hbd.2 (hb b List.mem_cons_self) hp1 hd
    rw [← e1] at k2
    have := tree_dec gT l _ (takeS q (bitBound s (cl.getD a 0))) _ (2 * a + b.toNat) room hr (fun x hx => hb x (List.mem_cons_of_mem _ hx)) h2 g1 hp k2
    show (rTree l.length (takeS q (rBound q (cl.getD a 0))) (cl.set a (sawN (cl.getD a 0) (takeBit q (rBound q (cl.getD a 0))))) (2 * a + (takeBit q (rBound q (cl.getD a 0))).toNat)).1 = _ ∧ (rTree l.length (takeS q (rBound q (cl.getD a 0))) (cl.set a (sawN (cl.getD a 0) (takeBit q (rBound q (cl.getD a 0))))) (2 * a + (takeBit q (rBound q (cl.getD a 0))).toNat)).2.2 = _ ∧ Dec _ (rTree l.length (takeS q (rBound q (cl.getD a 0))) (cl.set a (sawN (cl.getD a 0) (takeBit q (rBound q (cl.getD a 0))))) (2 * a + (takeBit q (rBound q (cl.getD a 0))).toNat)).2.1 _
    rw [hw, k1]
    exact this

/-! the law's steps -/
structure SX where
  s : WS
  cl : List Int
  tl : List Int
def mayD (d : Dn) : Prop := (d.verb = 0 ∧ 0 ≤ d.k ∧ d.k < 8 ∧ 0 ≤ d.n ∧ d.n < 2) ∨ (d.verb = 1 ∧ 0 ≤ d.bits ∧ d.bits ≤ 32) ∨ (d.verb = 2 ∧ 0 ≤ d.bits ∧ d.bits ≤ 8)
instance (d : Dn) : Decidable (mayD d) := by unfold mayD; infer_instance
def stepX (x : SX) (d : Dn) : SX :=
  if mayD d then
    if d.verb = 0 then ⟨putS x.s (bitBound x.s (x.cl.getD d.k.toNat 0)) d.n, x.cl.set d.k.toNat (sawN (x.cl.getD d.k.toNat 0) d.n), x.tl⟩
    else if d.verb = 1 then ⟨evenS x.s (bitsOf d.n d.bits.toNat), x.cl, x.tl⟩
    else ⟨(treeS x.s x.tl 1 (bitsOf d.n d.bits.toNat)).1, x.cl, (treeS x.s x.tl 1 (bitsOf d.n d.bits.toNat)).2⟩
  else x
structure SX.ok (x : SX) (room : Int) : Prop where
  gd : x.s.gd room
  c : chOk x.cl
  cn : x.cl.length = 8
  t : chOk x.tl
  tn : x.tl.length = 256
theorem SX.ok.less {x : SX} {r r' : Int} (h : x.ok r) (hr : r' ≤ r) : x.ok r' := ⟨h.gd.less hr, h.c, h.cn, h.t, h.tn⟩
theorem step_ok {x : SX} {d : Dn} {room : Int} (hr : 0 ≤ room) (h : x.ok (room + 32)) : (stepX x d).ok room := by
  unfold stepX
  split
  · rename_i hm
    split
    · have hb := bitBound_in h.gd.live (chOk_get h.c d.k.toNat)
      exact ⟨(putS_gd d.n hr (h.gd.less (by omega)) hb.1 hb.2).1, chOk_set h.c _ _ (sawN_ok _ _ (chOk_get h.c _)), by rw [List.length_set]; exact h.cn, h.t, h.tn⟩
    · split
      · exact ⟨even_gd _ _ _ hr (h.gd.less (by rw [bitsOf_len]; unfold mayD at hm; omega)), h.c, h.cn, h.t, h.tn⟩
      · obtain ⟨a, b, c⟩ := tree_gd (bitsOf d.n d.bits.toNat) x.s x.tl 1 room hr h.t (h.gd.less (by rw [bitsOf_len]; unfold mayD at hm; omega))
        exact ⟨a, h.c, h.cn, b, by rw [c]; exact h.tn⟩
  · exact h.less (by omega)
theorem step_pt {x : SX} {d : Dn} {room : Int} {rT : RW} (hr : 0 ≤ room) (h : x.ok (room + 32)) (hp : Pt (rOf (stepX x d).s) rT) : Pt (rOf x.s) rT := by
  unfold stepX at hp
  split at hp
  · rename_i hm
    split at hp
    · have hb := bitBound_in h.gd.live (chOk_get h.c d.k.toNat)
      obtain ⟨g1, e1⟩ := putS_gd d.n hr (h.gd.less (by omega)) hb.1 hb.2
      rw [e1] at hp
      exact pt_back d.n (h.gd.less (show room + 1 ≤ room + 32 by omega)).good hb.1 hb.2 hp
    · split at hp
      · exact even_pt _ _ room hr (h.gd.less (by rw [bitsOf_len]; unfold mayD at hm; omega)) hp
      · exact tree_pt _ _ _ _ room hr h.t (h.gd.less (by rw [bitsOf_len]; unfold mayD at hm; omega)) hp
  · exact hp
theorem run_ok : ∀ (l : List Dn) (x : SX) (room : Int), 0 ≤ room → x.ok (room + 32 * (l.length : Int)) → (l.foldl stepX x).ok room
  | [], x, room, _, h => by simpa using h
  | d :: l, x, room, hr, h => run_ok l _ room hr (step_ok (by omega) (h.less (by simp; omega)))
theorem run_pt {rT : RW} : ∀ (l : List Dn) (x : SX) (room : Int), 0 ≤ room → x.ok (room + 32 * (l.length : Int)) → Pt (rOf (l.foldl stepX x).s) rT → Pt (rOf x.s) rT
  | [], x, room, _, _, h => h
  | d :: l, x, room, hr, h, hp => by
    have h1 : x.ok (room + 32 * (l.length : Int) + 32) := h.less (by simp; omega)
    exact step_pt (by omega) h1 (run_pt l _ room hr (step_ok (by omega) h1) hp)

/-- A reader of the end's bytes stands where the writer began. -/
theorem open_dec {rT : RW} {room : Int} (ok : rT.ok room) : Dec ⟨[], 0, 4294967295⟩ (openS (rend rT)) (rend rT) := by
  have hb : bytesOk (rend rT) := by
    intro c hc
    have h0 := ok.low0
    have h1 := ok.low1
    rcases List.mem_append.1 hc with h | h
    · exact ok.bytes c h
    · simp at h; omega
  have hlen : (rend rT).length = rT.out.length + 4 := by simp [rend]
  generalize rend rT = fb at hb hlen ⊢
  match fb, hlen with
  | a :: b :: c :: d :: t, _ =>
    have ha := hb a (by simp)
    have hb' := hb b (by simp)
    have hc' := hb c (by simp)
    have hd' := hb d (by simp)
    have e : openS (a :: b :: c :: d :: t) = ⟨t, a * 16777216 + b * 65536 + c * 256 + d, 4294967295, 0⟩ := by
      show (⟨t, (((0 * 256 % 18446744073709551616 + a) * 256 % 18446744073709551616 + b) * 256 % 18446744073709551616 + c) * 256 % 18446744073709551616 + d, 4294967295, 0⟩ : RS) = _
      have : (((0 * 256 % 18446744073709551616 + a) * 256 % 18446744073709551616 + b) * 256 % 18446744073709551616 + c) * 256 % 18446744073709551616 + d = a * 16777216 + b * 65536 + c * 256 + d := by omega
      rw [this]
    have hl := openS_live hb
    rw [e] at hl ⊢
    refine ⟨⟨[a, b, c, d], rfl, rfl, ?_⟩, rfl, rfl, hl⟩
    show d + 256 * (c + 256 * (b + 256 * (a + 256 * 0))) = (0 * 4294967296 + 0) + (a * 16777216 + b * 65536 + c * 256 + d)
    omega
theorem dec_end {r : RW} {q : RS} (h : Dec r q (rend r)) : q.rem = [] := by
  obtain ⟨pre, e1, e2, _⟩ := h.pre
  have hlen : (rend r).length = r.out.length + 4 := by simp [rend]
  rw [e1, List.length_append] at hlen
  exact List.eq_nil_of_length_eq_zero (by omega)
end Go.Proofs.Ytnoofgcjhoiboaa
