/- The walks over the reader of package coder: next, Open. -/
import Derived.Test.YtnoofgcjhoiboaaCw8
import Derived.Laws.Slices
namespace Go.Proofs.Ytnoofgcjhoiboaa
set_option linter.unusedVariables false
set_option linter.unusedSimpArgs false
open Go.RowKit

/-- A slice that reads as these cells; its block is owned, but for nothing. -/
def Rq (v : Value) (xs : List Value) : HP := fun w F => ∃ A c, v = .slice A xs.length c ∧ xs.length ≤ c ∧ c ≤ maxLen ∧ (xs ≠ [] → ∃ b off, A = some ⟨b, off, none⟩ ∧ F b ∧ ∀ j u, xs[j]? = some u → w.cell? ⟨b, off + j, none⟩ = some u)
instance Loc.rq {B : Nat} {v : Value} {xs : List Value} : Loc B (Rq v xs) where
  keep := fun w w' F h _ ⟨A, c, hv, h1, h2, hr⟩ => ⟨A, c, hv, h1, h2, fun hne => by
    obtain ⟨b, off, hA, hF, hc⟩ := hr hne
    exact ⟨b, off, hA, hF, fun j u hu => (World.cell?_of_block (a := ⟨b, off + j, none⟩) (h b hF)).trans (hc j u hu)⟩⟩
  up := fun w F F' h ⟨A, c, hv, h1, h2, hr⟩ => ⟨A, c, hv, h1, h2, fun hne => by
    obtain ⟨b, off, hA, hF, hc⟩ := hr hne
    exact ⟨b, off, hA, h b hF, hc⟩⟩
theorem Own.rq_of_rw {B : Nat} {R : HP} {w : World} {e : TypeId} {v : Value} {n : Nat} {xs : List Value} (h : Own B (Rw e 1 v n xs * R) w) : Own B (Rq v xs * R) w := by
  refine h.mono fun w F ⟨F1, F2, hd, h1, h2, ⟨ho, hb⟩, hr⟩ => ⟨F1, F2, hd, h1, h2, ?_, hr⟩
  have hl : xs.length = n := by have := ho.1; omega
  rcases ho.2 with ⟨rfl, hn⟩ | ⟨g, cap, cur, rfl, _, hh, hc1, hc2, _⟩
  · subst hn
    obtain rfl : xs = [] := List.eq_nil_of_length_eq_zero hl
    exact ⟨none, 0, rfl, Nat.le_refl _, by unfold maxLen; omega, fun h => absurd rfl h⟩
  · refine ⟨_, cap, by rw [hl], by omega, hc2, fun _ => ⟨g, 0, rfl, hb g (by simp [Value.ownBlock]), fun j u hu => ?_⟩⟩
    have := ho.cells (g := g) rfl j u hu
    rwa [Addr.add_lit] at this

/-- 's[1:]' of a slice of bytes that is not empty. -/
theorem run_tail (b off n c : Nat) (h : n + 1 ≤ c) : ∃ off', (0 < n → off' = off + 1) ∧ ∀ W : World, (Instr.sliceAt 38 (.slice (some ⟨b, off, none⟩) (n + 1) c) (some (.int .i64 1)) none none).run Try.prog W = .ok (.slice (some ⟨b, off', none⟩) n (c - 1)) W := by
  refine ⟨if c = 1 then off else off + 1, fun hn => by rw [if_neg (by omega)], fun W => ?_⟩
  rw [run_sliceAt_slice W 38 _ _ _ _ (by kernel_rfl), run_slice_l W 38 _ _ _ (by kernel_rfl) .i64 1 (by omega) (by omega)]
  go_simp
  all_goals
    by_cases hc : c = 1
    · subst hc
      first | done | rfl | simp
    · first | done | (simp [hc, Addr.add]; done) | (simp [hc])

structure RS where
  rem : List Int
  n : Int
  width : Int
  e : Int

def rsCells (v : Value) (s : RS) : Array Value := #[v, .int .u64 s.n, .int .u64 s.width, .int .i64 s.e]
def ReV (p : Nat) (v : Value) (s : RS) : HP := Bk p 72 (rsCells v s) * Rq v (bytesV s.rem)
def Re (p : Nat) (s : RS) : HP := Hex fun v => ReV p v s
instance {B p : Nat} {s : RS} : Loc B (Re p s) := inferInstanceAs (Loc B (Hex fun v => Bk p _ _ * Rq _ _))

def nextS (s : RS) : RS := match s.rem with
  | [] => { s with e := 2, n := s.n * 256 % 18446744073709551616 }
  | c :: l => { s with rem := l, n := s.n * 256 % 18446744073709551616 + c }

structure RS.ok (s : RS) : Prop where
  bytes : ∀ c ∈ s.rem, 0 ≤ c ∧ c ≤ 255
  n0 : 0 ≤ s.n
  n1 : s.n < 18446744073709551616
  width0 : 0 ≤ s.width
  width1 : s.width < 4294967296

theorem wrap_u64 (n : Int) : IntKind.u64.wrap n = n % 18446744073709551616 := by simp [IntKind.wrap, IntKind.bits, IntKind.signed]
theorem u64_or_byte (n c : Int) (h0 : 0 ≤ n) (hc : 0 ≤ c ∧ c ≤ 255) : bits .or .u64 (n * 256 % 18446744073709551616) c = n * 256 % 18446744073709551616 + c := by
  rw [u64_or _ _ (Int.emod_nonneg _ (by omega)) (Int.emod_lt_of_pos _ (by omega)) hc.1 (by omega)]
  have h2 := Nat.two_pow_add_eq_or_of_lt (i := 8) (b := c.toNat) (by omega) ((n * 256 % 18446744073709551616).toNat / 256)
  have e : 2 ^ 8 * ((n * 256 % 18446744073709551616).toNat / 256) = (n * 256 % 18446744073709551616).toNat := by omega
  rw [e] at h2
  rw [← h2]
  omega

set_option maxHeartbeats 800000 in
theorem next_short (p : Nat) (s : RS) (B : Nat) (R : HP) [Loc B R] (w : World) (hB : B ≤ w.heap.size) (hok : s.ok) (hnil : s.rem = []) (hO : Own B (Re p s * R) w) :
    Calls Try.prog 35 #[.pointer (some ⟨p, 0, none⟩)] w (Ret B w (.tuple #[]) (Re p (nextS s) * R)) := by
  obtain ⟨rem, n, width, e⟩ := s
  obtain ⟨hb, n0, n1, w0, w1⟩ := hok
  simp only at hb n0 n1 w0 w1 hnil
  subst hnil
  obtain ⟨v, hV⟩ := hO.hex
  have hV := hV.assoc
  obtain ⟨A, c, rfl, -⟩ : ∃ A c, v = .slice A 0 c ∧ True := by
    obtain ⟨F, hf, F1, F2, hd, h1, h2, ha, F3, F4, hd', h3, h4, ⟨A, c, hv, _⟩, _⟩ := hV
    exact ⟨A, c, hv, trivial⟩
  have c0 : w.cell? ⟨p, 0, none⟩ = some (.slice A 0 c) := hV.cell 0
  have c1 : w.cell? ⟨p, 1, none⟩ = some (.int .u64 n) := hV.cell 1
  have z3 := hV.unfrozen 3
  have z1 := hV.unfrozen 1
  have c3 : w.cell? ⟨p, 3, none⟩ = some (.int .i64 e) := hV.cell 3
  go_enter Try.func35, Try.ntmps35
  go_wp2
  go_end0
  have e3 := hV.set hB 3 (.int .i64 2)
  have fin : ∀ x : Int, x = n * 256 % 18446744073709551616 → Ret B w (.tuple #[]) (Re p (nextS ⟨[], n, width, e⟩) * R) (.returned (.tuple #[])) ((w.setCell ⟨p, 3, none⟩ (.int .i64 2)).setCell ⟨p, 1, none⟩ (.int .u64 x)) := by
    rintro x rfl
    have e1 := e3.set (by simpa [World.setCell] using hB) 1 (.int .u64 (n * 256 % 18446744073709551616))
    exact ⟨rfl, (e1.assoc').to_hex (A := fun v => ReV p v (nextS ⟨[], n, width, e⟩)) (.slice A 0 c), (hV.below_set 3 _).trans (e3.below_set 1 _)⟩
  refine fin _ ?_
  have := u64_or_byte n 0 n0 (by omega)
  rw [wrap_u64]
  simpa using this

set_option maxHeartbeats 800000 in
theorem next_some (p : Nat) (s : RS) (x : Int) (l : List Int) (B : Nat) (R : HP) [Loc B R] (w : World) (hB : B ≤ w.heap.size) (hok : s.ok) (hrem : s.rem = x :: l) (hO : Own B (Re p s * R) w) :
    Calls Try.prog 35 #[.pointer (some ⟨p, 0, none⟩)] w (Ret B w (.tuple #[]) (Re p (nextS s) * R)) := by
  obtain ⟨rem, n, width, e⟩ := s
  obtain ⟨hb, n0, n1, w0, w1⟩ := hok
  simp only at hb n0 n1 w0 w1 hrem
  subst hrem
  have hx := hb x List.mem_cons_self
  obtain ⟨v, hV⟩ := hO.hex
  have hV := hV.assoc
  obtain ⟨b, off, c, rfl, hc1, hc2, hall⟩ : ∃ b off c, v = .slice (some ⟨b, off, none⟩) (l.length + 1) c ∧ l.length + 1 ≤ c ∧ c ≤ maxLen ∧ (∀ w' , Own B (Bk p 72 (rsCells v ⟨x :: l, n, width, e⟩) * (Rq v (bytesV (x :: l)) * R)) w' → w'.cell? ⟨b, off, none⟩ = some (.int .u8 x)) := by
    have key : ∀ w', Own B (Bk p 72 (rsCells v ⟨x :: l, n, width, e⟩) * (Rq v (bytesV (x :: l)) * R)) w' → ∃ b off c, v = .slice (some ⟨b, off, none⟩) (l.length + 1) c ∧ l.length + 1 ≤ c ∧ c ≤ maxLen ∧ w'.cell? ⟨b, off, none⟩ = some (.int .u8 x) := by
      rintro w' ⟨F, hf, F1, F2, hd, h1, h2, ha, F3, F4, hd', h3, h4, ⟨A, c, hv, hl1, hl2, hr⟩, _⟩
      obtain ⟨b, off, rfl, hF, hcc⟩ := hr (by simp [bytesV])
      exact ⟨b, off, c, by simpa [bytesV] using hv, by simpa [bytesV] using hl1, hl2, hcc 0 _ rfl⟩
    obtain ⟨b, off, c, hv, h1, h2, h3⟩ := key w hV
    refine ⟨b, off, c, hv, h1, h2, fun w' hw' => ?_⟩
    obtain ⟨b', off', c', hv', _, _, h3'⟩ := key w' hw'
    rw [hv] at hv'
    injection hv' with e1 _ _
    injection e1 with e1
    injection e1 with e1 e2
    subst e1; subst e2
    exact h3'
  unfold maxLen at hc2
  obtain ⟨off', hoff, hsl⟩ := run_tail b off l.length c hc1
  have Hoff := Lib.hid hoff
  clear hoff
  have c0 : w.cell? ⟨p, 0, none⟩ = some (.slice (some ⟨b, off, none⟩) (l.length + 1) c) := hV.cell 0
  have c1 : w.cell? ⟨p, 1, none⟩ = some (.int .u64 n) := hV.cell 1
  go_enter Try.func35, Try.ntmps35
  go_wp2
  refine wp_region_mix (St B (Bk p 72 (rsCells (.slice (some ⟨b, off, none⟩) (l.length + 1) c) ⟨x :: l, n, width, e⟩) * (Rq (.slice (some ⟨b, off, none⟩) (l.length + 1) c) (bytesV (x :: l)) * R)) w) [0, 1, 2, 3, 4, 5, 6, 7, 8, 9, 10, 11, 12, 13, 14] [15] mixed (by kernel_rfl) rfl (St.drew hB hV) ?_
  simp only [List.filterMap_cons, List.filterMap_nil, List.getElem?_toArray, List.getElem?_cons_succ, List.getElem?_cons_zero]
  repeat (first
    | (refine held_val ?_ rfl (fun w1 hS => ?_) ?_
       rotate_left
       · (have c0 : w1.cell? ⟨p, 0, none⟩ = some (.slice (some ⟨b, off, none⟩) (l.length + 1) c) := hS.2.1.cell 0; have c1 := hall _ hS.2.1
          go_simp
          try go_bits
          rfl)
       simp only [Act.put, List.setIfInBounds_toArray, List.set_cons_zero, List.set_cons_succ])
    | (refine held_off rfl ?_
       simp only [Act.put, List.setIfInBounds_toArray, List.set_cons_zero, List.set_cons_succ]))
  refine held_nil (fun w1 hS => ?_)
  obtain ⟨k2, k3, k4⟩ := hS
  have c0 : w1.cell? ⟨p, 0, none⟩ = some (.slice (some ⟨b, off, none⟩) (l.length + 1) c) := k3.cell 0
  have z0 := k3.unfrozen 0
  have c1 : w1.cell? ⟨p, 1, none⟩ = some (.int .u64 n) := k3.cell 1
  have z1 := k3.unfrozen 1
  go_wp2
  go_end0
  have e0 := k3.set k2 0 (.slice (some ⟨b, off', none⟩) l.length (c - 1))
  have fin : ∀ y : Int, y = n * 256 % 18446744073709551616 + x → Ret B w (.tuple #[]) (Re p (nextS ⟨x :: l, n, width, e⟩) * R) (.returned (.tuple #[])) ((w1.setCell ⟨p, 0, none⟩ (.slice (some ⟨b, off', none⟩) l.length (c - 1))).setCell ⟨p, 1, none⟩ (.int .u64 y)) := by
    rintro y rfl
    have e1 := e0.set (by simpa [World.setCell] using k2) 1 (.int .u64 (n * 256 % 18446744073709551616 + x))
    refine ⟨rfl, ?_, (k4.trans (k3.below_set 0 _)).trans (e0.below_set 1 _)⟩
    have e2 : Own B (ReV p (.slice (some ⟨b, off', none⟩) l.length (c - 1)) (nextS ⟨x :: l, n, width, e⟩) * R) ((w1.setCell ⟨p, 0, none⟩ (.slice (some ⟨b, off', none⟩) l.length (c - 1))).setCell ⟨p, 1, none⟩ (.int .u64 (n * 256 % 18446744073709551616 + x))) := by
      refine Own.assoc' (e1.mono fun W F h => ?_)
      obtain ⟨F1, F2, hd, h1, h2, ha, F3, F4, hd', h3, h4, ⟨A, c', hv, hl1, hl2, hr⟩, hrr⟩ := h
      refine ⟨F1, F2, hd, h1, h2, ha, F3, F4, hd', h3, h4, ⟨some ⟨b, off', none⟩, c - 1, by simp [bytesV, nextS], by simp [bytesV, nextS]; omega, by unfold maxLen; omega, fun hne => ?_⟩, hrr⟩
      obtain ⟨b', off2, hA, hF, hcc⟩ := hr (by simp [bytesV])
      injection hv with hv1 _ _
      rw [hA] at hv1
      injection hv1 with hv1
      injection hv1 with q1 q2
      subst q1; subst q2
      have hn : 0 < l.length := by
        cases l with
        | nil => exact absurd rfl hne
        | cons _ _ => simp
      refine ⟨b, off', rfl, hF, fun j u hu => ?_⟩
      rw [Hoff.out hn, show off + 1 + j = off + (j + 1) by omega]
      exact hcc (j + 1) u (by simpa [bytesV, nextS] using hu)
    exact e2.to_hex (A := fun v => ReV p v (nextS ⟨x :: l, n, width, e⟩)) _
  refine fin _ ?_
  first | rw [wrap_u64, u64_or_byte n x n0 hx] | exact u64_or_byte n x n0 hx

theorem next_any (p : Nat) (s : RS) (B : Nat) (R : HP) [Loc B R] (w : World) (hB : B ≤ w.heap.size) (hok : s.ok) (hO : Own B (Re p s * R) w) :
    Calls Try.prog 35 #[.pointer (some ⟨p, 0, none⟩)] w (Ret B w (.tuple #[]) (Re p (nextS s) * R)) := by
  cases hr : s.rem with
  | nil => exact next_short p s B R w hB hok hr hO
  | cons x l => exact next_some p s x l B R w hB hok hr hO

theorem nextS_ok {s : RS} (h : s.ok) : (nextS s).ok := by
  obtain ⟨rem, n, width, e⟩ := s
  obtain ⟨hb, n0, n1, w0, w1⟩ := h
  simp only at hb n0 n1 w0 w1
  cases rem with
  | nil => exact ⟨hb, by show 0 ≤ n * 256 % _; omega, by show n * 256 % _ < _; omega, w0, w1⟩
  | cons x l =>
    have hx := hb x List.mem_cons_self
    exact ⟨fun c hc => hb c (List.mem_cons_of_mem _ hc), by show 0 ≤ n * 256 % _ + x; omega, by show n * 256 % _ + x < _; omega, w0, w1⟩
end Go.Proofs.Ytnoofgcjhoiboaa
