/- The walks over Open, Err, Left and take of package coder's reader. -/
import Derived.Test.YtnoofgcjhoiboaaCr1
import Derived.ScopeJumps
namespace Go.Proofs.Ytnoofgcjhoiboaa
set_option linter.unusedVariables false
set_option linter.unusedSimpArgs false
open Go.RowKit

def open0 (l : List Int) : RS := ⟨l, 0, 4294967295, 0⟩
def nextN : Nat → RS → RS
  | 0, s => s
  | k + 1, s => nextN k (nextS s)
def openS (l : List Int) : RS := nextN 4 (open0 l)
theorem nextN_ok : ∀ (k : Nat) (s : RS), s.ok → (nextN k s).ok
  | 0, _, h => h
  | k + 1, s, h => nextN_ok k _ (nextS_ok h)

theorem row_slice {w : World} {b : Nat} {e : TypeId} {size : Nat} {v : Value} {n : Nat} {xs : List Value} (h : w.ownsRow b e size v n xs) : ∃ A m c, v = .slice A m c := by
  rcases h.2 with ⟨rfl, _⟩ | ⟨g, cap, cur, rfl, _⟩
  · exact ⟨_, _, _, rfl⟩
  · exact ⟨_, _, _, rfl⟩
def bytesOk (l : List Int) : Prop := ∀ c ∈ l, 0 ≤ c ∧ c ≤ 255

set_option maxHeartbeats 800000 in
theorem open_any (v : Value) (l : List Int) (hb : bytesOk l) (B : Nat) (R : HP) [Loc B R] (w : World) (hB : B ≤ w.heap.size) (hr : Rd w v (bytesV l)) (hl : l.length ≤ 1099511627776) (hO : Own B R w) :
    Calls Try.prog 23 #[v] w fun e w' => ∃ p, Ret B w (.pointer (some ⟨p, 0, none⟩)) (Re p (openS l) * R) e w' := by
  have hcl := clone_bytes v l w hr (by omega)
  have ok0 : (open0 l).ok := ⟨hb, by show (0 : Int) ≤ 0; omega, by show (0 : Int) < _; omega, by show (0 : Int) ≤ 4294967295; omega, by show (4294967295 : Int) < _; omega⟩
  have Hok := Lib.hid ok0
  clear ok0
  go_enter Try.func23, Try.ntmps23
  go_wp2_with (go_at_call 33; refine hcl.mono ?_; rintro e w1 ⟨v1, rfl, ho, hbe⟩; obtain ⟨A1, m1, q1, rfl⟩ := row_slice ho)
  have o1 := (Own.fresh hB hO ho hbe).rq_of_rw
  have B1 : B ≤ w1.heap.size := Nat.le_trans hB hbe.size
  have o2 := ((o1.new B1 72 (rsCells (.slice A1 m1 q1) (open0 l))).assoc').to_hex (A := fun v => ReV w1.heap.size v (open0 l)) (.slice A1 m1 q1)
  have b2 : Below B w (w1.alloc (.cells (rsCells (.slice A1 m1 q1) (open0 l)) 72)) := (hbe.mono hB).alloc B1 _
  have Hb := Lib.hid hb
  have Hr := Lib.hid hr
  clear hb hr hcl
  go_loopg [8] 4 (fun k i wr => k ≤ 4 ∧ i = .int .i64 (4 - (k : Int)) ∧ ∃ s' : RS, Own B (Re w1.heap.size s' * R) wr ∧ Below B w wr ∧ s'.ok ∧ Hid (nextN k s' = openS l))
  case atStart => exact ⟨Nat.le_refl _, rfl, _, o2, b2, Hok.out, rfl⟩
  case round =>
    obtain ⟨hk, rfl, s', ho, hbb, hl', he⟩ := hrel
    have Bw : B ≤ wr.heap.size := Nat.le_trans hB hbb.size
    by_cases hk0 : gk = 0
    · subst hk0
      go_wp2
      go_ret
      rw [← he.out]
      exact ⟨w1.heap.size, rfl, ho, hbb⟩
    · obtain ⟨j, rfl⟩ : ∃ j, gk = j + 1 := ⟨gk - 1, by omega⟩
      have Hl2 := Lib.hid hl'
      clear hl'
      go_wp2_with (go_at_call 35; refine (next_any w1.heap.size s' B R _ Bw Hl2.out ho).mono ?_; rintro e w3 ⟨rfl, o3, b3⟩)
      go_roundg j
      case measure => omega
      case rel => exact ⟨by omega, congrArg (Value.int .i64) (by omega), _, o3, hbb.trans b3, nextS_ok Hl2.out, he.out⟩

def takeT (s : RS) (bound : Int) : RS := if s.n < bound then { s with width := bound } else { s with n := s.n - bound, width := s.width - bound }
def takeBit (s : RS) (bound : Int) : Int := if s.n < bound then 0 else 1
def tkN (s : RS) (bound : Int) : RS := nextS { takeT s bound with width := (takeT s bound).width * 256 }
def takeS (s : RS) (bound : Int) : RS := if (takeT s bound).width < 16777216 then tkN s bound else takeT s bound

theorem nextS_width (s : RS) : (nextS s).width = s.width := by unfold nextS; split <;> rfl
theorem tkN_width (s : RS) (bound : Int) : (tkN s bound).width = (takeT s bound).width * 256 := nextS_width _
theorem takeT_ok {s : RS} {bound : Int} (hok : s.ok) (b0 : 65536 ≤ bound) (b1 : bound + 65536 ≤ s.width) : (takeT s bound).ok ∧ 65536 ≤ (takeT s bound).width := by
  obtain ⟨hb, n0, n1, w0, w1⟩ := hok
  unfold takeT
  split
  · exact ⟨⟨hb, n0, n1, by show 0 ≤ bound; omega, by show bound < _; omega⟩, b0⟩
  · exact ⟨⟨hb, by show 0 ≤ s.n - bound; omega, by show s.n - bound < _; omega, by show 0 ≤ s.width - bound; omega, by show s.width - bound < _; omega⟩, by show 65536 ≤ s.width - bound; omega⟩

set_option maxHeartbeats 1600000 in
set_option maxRecDepth 100000 in
theorem take_low (p : Nat) (s : RS) (bound : Int) (B : Nat) (R : HP) [Loc B R] (w : World) (hB : B ≤ w.heap.size) (hok : s.ok) (hO : Own B (Re p s * R) w) (b0 : 65536 ≤ bound) (b1 : bound + 65536 ≤ s.width) (h : s.n < bound) :
    Calls Try.prog 36 #[.pointer (some ⟨p, 0, none⟩), .int .u64 bound] w (Ret B w (.int .i64 0) (Re p (takeS s bound) * R)) := by
  have Hok := Lib.hid (takeT_ok hok b0 b1)
  have hT : takeT s bound = { s with width := bound } := by unfold takeT; rw [if_pos h]
  have HT := Lib.hid hT
  clear hT
  have Hk := Lib.hid hok
  have hw1 := hok.width1
  clear hok
  obtain ⟨v, hV⟩ := hO.hex
  have hV := hV.assoc
  have c1 : w.cell? ⟨p, 1, none⟩ = some (.int .u64 s.n) := hV.cell 1
  have c2 : w.cell? ⟨p, 2, none⟩ = some (.int .u64 s.width) := hV.cell 2
  have z1 := hV.unfrozen 1
  have z2 := hV.unfrozen 2
  have d1 := hV.set hB 2 (.int .u64 bound)
  have e1 := hV.below_set 2 (.int .u64 bound)
  have d2 := d1.set (by simpa [World.setCell] using hB) 2 (.int .u64 (bound * 256))
  have e2 := d1.below_set 2 (.int .u64 (bound * 256))
  go_enter Try.func36, Try.ntmps36
  go_wp2
  refine wp_scope_jumps 0 (fun a' w' => (∃ (u2 u3 u4 u6 u7 u8 u9 u10 u11 u12 u13 u14 u15 u16 u17 u18 u19 u20 u21 u22 u23 u24 u25 u26 u27 u28 u29 u30 u31 u32 u33 u34 u35 u36 u37 u38 u39 u40 u41 u42 u43 u44 u45 u46 : Value), a' = { tmps := #[.pointer (some ⟨p, 0, none⟩), .int .u64 bound, u2, u3, u4, .int .i64 0, u6, u7, u8, u9, u10, u11, u12, u13, u14, u15, u16, u17, u18, u19, u20, u21, u22, u23, u24, u25, u26, u27, u28, u29, u30, u31, u32, u33, u34, u35, u36, u37, u38, u39, u40, u41, u42, u43, u44, u45, u46], defers := [] }) ∧ Below B w w' ∧ Own B (Re p (tkN s bound) * R) w' ∧ (takeT s bound).width < 16777216) (fun _ _ => 0) rfl ?_ ?_
  · by_cases hlt : bound < 16777216
    · have B2 : B ≤ ((w.setCell ⟨p, 2, none⟩ (.int .u64 bound)).setCell ⟨p, 2, none⟩ (.int .u64 (bound * 256))).heap.size := by simpa [World.setCell] using hB
      have o2 := (d2.assoc').to_hex (A := fun v => ReV p v { s with width := bound * 256 }) v
      have hokn : RS.ok { s with width := bound * 256 } := ⟨Hk.out.bytes, Hk.out.n0, Hk.out.n1, by show 0 ≤ bound * 256; omega, by show bound * 256 < _; omega⟩
      have Hn := Lib.hid hokn
      clear hokn
      go_wp2
      go_step3
      go_wp2_with (go_at_call 35; refine (next_any p { s with width := bound * 256 } B R _ B2 Hn.out o2).mono ?_; rintro e w3 ⟨rfl, o3, b3⟩)
      go_step3
      refine ⟨rfl, ⟨_, _, _, _, _, _, _, _, _, _, _, _, _, _, _, _, _, _, _, _, _, _, _, _, _, _, _, _, _, _, _, _, _, _, _, _, _, _, _, _, _, _, _, _, rfl⟩, ?_⟩
      exact ⟨((e1.trans e2).trans b3), by rw [tkN, HT.out]; exact o3, by rw [HT.out]; exact hlt⟩
    · have o2 := (d1.assoc').to_hex (A := fun v => ReV p v { s with width := bound }) v
      go_wp2
      go_step3
      go_wp2
      simp only [Exit.jump]
      go_ret
      exact ⟨rfl, by rw [takeS, HT.out, if_neg (by show ¬ bound < 16777216; omega)]; exact o2, e1⟩
  · rintro a' w' ⟨⟨u2, u3, u4, u6, u7, u8, u9, u10, u11, u12, u13, u14, u15, u16, u17, u18, u19, u20, u21, u22, u23, u24, u25, u26, u27, u28, u29, u30, u31, u32, u33, u34, u35, u36, u37, u38, u39, u40, u41, u42, u43, u44, u45, u46, rfl⟩, hbb, ho, hlt⟩
    have Bw : B ≤ w'.heap.size := Nat.le_trans hB hbb.size
    obtain ⟨v2, hV2⟩ := ho.hex
    have hV2 := hV2.assoc
    have q2 : w'.cell? ⟨p, 2, none⟩ = some (.int .u64 ((takeT s bound).width * 256)) := (hV2.cell 2).trans (by show some (Value.int .u64 (tkN s bound).width) = _; rw [tkN_width])
    have hge : 16777216 ≤ (takeT s bound).width * 256 := by have := Hok.out.2; omega
    have Hlt := Lib.hid hlt
    clear hlt
    go_wp2
    simp only [Exit.jump]
    go_ret
    exact ⟨rfl, by rw [takeS, if_pos Hlt.out]; exact ho, hbb⟩
end Go.Proofs.Ytnoofgcjhoiboaa
