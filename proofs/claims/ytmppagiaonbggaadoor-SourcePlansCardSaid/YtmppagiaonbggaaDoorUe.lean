/- Texts of one proof, merged: XG0 XG2 XH1 XH3 XRa. -/
import Derived.Test.YtmppagiaonbggaaDoorUd
import Derived.BigQuiet
import Derived.Deep.LoopGhost
import Derived.WalkSmall
/- Package digest: words, turned, and read of bytes. -/
namespace Go.Proofs.YtmppagiaonbggaaDoor
set_option linter.unusedVariables false
set_option linter.unusedSimpArgs false
set_option maxRecDepth 100000
open Go.RowKit

/-- A call that leaves the world as it is, and returns this word. -/
def RetU (z : Int) (w : World) (e : Ending) (w' : World) : Prop := e = .returned (.int .u32 z) ∧ w' = w
def turn7 (x : Int) : Int := bits .or .u32 (x * 33554432 % 4294967296) (x / 128)
theorem rot7 (x : Int) (w : World) : Calls Tryd.prog 77 #[.int .u32 x, .int .i64 (-7)] w (RetU (turn7 x) w) := by
  have h1 : bits .and .u64 (IntKind.u64.wrap (-7)) 31 = 25 := by decide
  go_enter Tryd.func77, Tryd.ntmps77
  go_wp2
  go_ret
  exact ⟨rfl, rfl⟩
theorem turn7_any (x : Int) (w : World) : Calls Tryd.prog 64 #[.int .u32 x, .int .i64 7] w (RetU (turn7 x) w) := by
  have Hz := Lib.hid (rot7 x w)
  generalize turn7 x = z at *
  go_enter Tryd.func64, Tryd.ntmps64
  go_wp2_with fail
  refine Hz.out.mono ?_
  rintro e w1 ⟨rfl, rfl⟩
  go_wp2
  go_ret
  exact ⟨rfl, rfl⟩
def turn18 (x : Int) : Int := bits .or .u32 (x * 16384 % 4294967296) (x / 262144)
theorem rot18 (x : Int) (w : World) : Calls Tryd.prog 77 #[.int .u32 x, .int .i64 (-18)] w (RetU (turn18 x) w) := by
  have h1 : bits .and .u64 (IntKind.u64.wrap (-18)) 31 = 14 := by decide
  go_enter Tryd.func77, Tryd.ntmps77
  go_wp2
  go_ret
  exact ⟨rfl, rfl⟩
theorem turn18_any (x : Int) (w : World) : Calls Tryd.prog 64 #[.int .u32 x, .int .i64 18] w (RetU (turn18 x) w) := by
  have Hz := Lib.hid (rot18 x w)
  generalize turn18 x = z at *
  go_enter Tryd.func64, Tryd.ntmps64
  go_wp2_with fail
  refine Hz.out.mono ?_
  rintro e w1 ⟨rfl, rfl⟩
  go_wp2
  go_ret
  exact ⟨rfl, rfl⟩
def turn17 (x : Int) : Int := bits .or .u32 (x * 32768 % 4294967296) (x / 131072)
theorem rot17 (x : Int) (w : World) : Calls Tryd.prog 77 #[.int .u32 x, .int .i64 (-17)] w (RetU (turn17 x) w) := by
  have h1 : bits .and .u64 (IntKind.u64.wrap (-17)) 31 = 15 := by decide
  go_enter Tryd.func77, Tryd.ntmps77
  go_wp2
  go_ret
  exact ⟨rfl, rfl⟩
theorem turn17_any (x : Int) (w : World) : Calls Tryd.prog 64 #[.int .u32 x, .int .i64 17] w (RetU (turn17 x) w) := by
  have Hz := Lib.hid (rot17 x w)
  generalize turn17 x = z at *
  go_enter Tryd.func64, Tryd.ntmps64
  go_wp2_with fail
  refine Hz.out.mono ?_
  rintro e w1 ⟨rfl, rfl⟩
  go_wp2
  go_ret
  exact ⟨rfl, rfl⟩
def turn19 (x : Int) : Int := bits .or .u32 (x * 8192 % 4294967296) (x / 524288)
theorem rot19 (x : Int) (w : World) : Calls Tryd.prog 77 #[.int .u32 x, .int .i64 (-19)] w (RetU (turn19 x) w) := by
  have h1 : bits .and .u64 (IntKind.u64.wrap (-19)) 31 = 13 := by decide
  go_enter Tryd.func77, Tryd.ntmps77
  go_wp2
  go_ret
  exact ⟨rfl, rfl⟩
theorem turn19_any (x : Int) (w : World) : Calls Tryd.prog 64 #[.int .u32 x, .int .i64 19] w (RetU (turn19 x) w) := by
  have Hz := Lib.hid (rot19 x w)
  generalize turn19 x = z at *
  go_enter Tryd.func64, Tryd.ntmps64
  go_wp2_with fail
  refine Hz.out.mono ?_
  rintro e w1 ⟨rfl, rfl⟩
  go_wp2
  go_ret
  exact ⟨rfl, rfl⟩
def turn6 (x : Int) : Int := bits .or .u32 (x * 67108864 % 4294967296) (x / 64)
theorem rot6 (x : Int) (w : World) : Calls Tryd.prog 77 #[.int .u32 x, .int .i64 (-6)] w (RetU (turn6 x) w) := by
  have h1 : bits .and .u64 (IntKind.u64.wrap (-6)) 31 = 26 := by decide
  go_enter Tryd.func77, Tryd.ntmps77
  go_wp2
  go_ret
  exact ⟨rfl, rfl⟩
theorem turn6_any (x : Int) (w : World) : Calls Tryd.prog 64 #[.int .u32 x, .int .i64 6] w (RetU (turn6 x) w) := by
  have Hz := Lib.hid (rot6 x w)
  generalize turn6 x = z at *
  go_enter Tryd.func64, Tryd.ntmps64
  go_wp2_with fail
  refine Hz.out.mono ?_
  rintro e w1 ⟨rfl, rfl⟩
  go_wp2
  go_ret
  exact ⟨rfl, rfl⟩
def turn11 (x : Int) : Int := bits .or .u32 (x * 2097152 % 4294967296) (x / 2048)
theorem rot11 (x : Int) (w : World) : Calls Tryd.prog 77 #[.int .u32 x, .int .i64 (-11)] w (RetU (turn11 x) w) := by
  have h1 : bits .and .u64 (IntKind.u64.wrap (-11)) 31 = 21 := by decide
  go_enter Tryd.func77, Tryd.ntmps77
  go_wp2
  go_ret
  exact ⟨rfl, rfl⟩
theorem turn11_any (x : Int) (w : World) : Calls Tryd.prog 64 #[.int .u32 x, .int .i64 11] w (RetU (turn11 x) w) := by
  have Hz := Lib.hid (rot11 x w)
  generalize turn11 x = z at *
  go_enter Tryd.func64, Tryd.ntmps64
  go_wp2_with fail
  refine Hz.out.mono ?_
  rintro e w1 ⟨rfl, rfl⟩
  go_wp2
  go_ret
  exact ⟨rfl, rfl⟩
def turn25 (x : Int) : Int := bits .or .u32 (x * 128 % 4294967296) (x / 33554432)
theorem rot25 (x : Int) (w : World) : Calls Tryd.prog 77 #[.int .u32 x, .int .i64 (-25)] w (RetU (turn25 x) w) := by
  have h1 : bits .and .u64 (IntKind.u64.wrap (-25)) 31 = 7 := by decide
  go_enter Tryd.func77, Tryd.ntmps77
  go_wp2
  go_ret
  exact ⟨rfl, rfl⟩
theorem turn25_any (x : Int) (w : World) : Calls Tryd.prog 64 #[.int .u32 x, .int .i64 25] w (RetU (turn25 x) w) := by
  have Hz := Lib.hid (rot25 x w)
  generalize turn25 x = z at *
  go_enter Tryd.func64, Tryd.ntmps64
  go_wp2_with fail
  refine Hz.out.mono ?_
  rintro e w1 ⟨rfl, rfl⟩
  go_wp2
  go_ret
  exact ⟨rfl, rfl⟩
def turn2 (x : Int) : Int := bits .or .u32 (x * 1073741824 % 4294967296) (x / 4)
theorem rot2 (x : Int) (w : World) : Calls Tryd.prog 77 #[.int .u32 x, .int .i64 (-2)] w (RetU (turn2 x) w) := by
  have h1 : bits .and .u64 (IntKind.u64.wrap (-2)) 31 = 30 := by decide
  go_enter Tryd.func77, Tryd.ntmps77
  go_wp2
  go_ret
  exact ⟨rfl, rfl⟩
theorem turn2_any (x : Int) (w : World) : Calls Tryd.prog 64 #[.int .u32 x, .int .i64 2] w (RetU (turn2 x) w) := by
  have Hz := Lib.hid (rot2 x w)
  generalize turn2 x = z at *
  go_enter Tryd.func64, Tryd.ntmps64
  go_wp2_with fail
  refine Hz.out.mono ?_
  rintro e w1 ⟨rfl, rfl⟩
  go_wp2
  go_ret
  exact ⟨rfl, rfl⟩
def turn13 (x : Int) : Int := bits .or .u32 (x * 524288 % 4294967296) (x / 8192)
theorem rot13 (x : Int) (w : World) : Calls Tryd.prog 77 #[.int .u32 x, .int .i64 (-13)] w (RetU (turn13 x) w) := by
  have h1 : bits .and .u64 (IntKind.u64.wrap (-13)) 31 = 19 := by decide
  go_enter Tryd.func77, Tryd.ntmps77
  go_wp2
  go_ret
  exact ⟨rfl, rfl⟩
theorem turn13_any (x : Int) (w : World) : Calls Tryd.prog 64 #[.int .u32 x, .int .i64 13] w (RetU (turn13 x) w) := by
  have Hz := Lib.hid (rot13 x w)
  generalize turn13 x = z at *
  go_enter Tryd.func64, Tryd.ntmps64
  go_wp2_with fail
  refine Hz.out.mono ?_
  rintro e w1 ⟨rfl, rfl⟩
  go_wp2
  go_ret
  exact ⟨rfl, rfl⟩
def turn22 (x : Int) : Int := bits .or .u32 (x * 1024 % 4294967296) (x / 4194304)
theorem rot22 (x : Int) (w : World) : Calls Tryd.prog 77 #[.int .u32 x, .int .i64 (-22)] w (RetU (turn22 x) w) := by
  have h1 : bits .and .u64 (IntKind.u64.wrap (-22)) 31 = 10 := by decide
  go_enter Tryd.func77, Tryd.ntmps77
  go_wp2
  go_ret
  exact ⟨rfl, rfl⟩
theorem turn22_any (x : Int) (w : World) : Calls Tryd.prog 64 #[.int .u32 x, .int .i64 22] w (RetU (turn22 x) w) := by
  have Hz := Lib.hid (rot22 x w)
  generalize turn22 x = z at *
  go_enter Tryd.func64, Tryd.ntmps64
  go_wp2_with fail
  refine Hz.out.mono ?_
  rintro e w1 ⟨rfl, rfl⟩
  go_wp2
  go_ret
  exact ⟨rfl, rfl⟩

/-- A slice's bytes, as a word. -/
def word4 (a b c d : Int) : Int := bits .or .u32 (bits .or .u32 (bits .or .u32 (a * 16777216) (b * 65536)) (c * 256)) d
theorem word_any (b0 o0 n c : Nat) (x0 x1 x2 x3 : Int) (w : World) (hn : 4 ≤ n) (h0 : 0 ≤ x0 ∧ x0 < 256) (h1 : 0 ≤ x1 ∧ x1 < 256) (h2 : 0 ≤ x2 ∧ x2 < 256) (h3 : 0 ≤ x3 ∧ x3 < 256)
    (c0 : w.cell? ⟨b0, o0, none⟩ = some (.int .u8 x0)) (c1 : w.cell? ⟨b0, o0 + 1, none⟩ = some (.int .u8 x1)) (c2 : w.cell? ⟨b0, o0 + 2, none⟩ = some (.int .u8 x2)) (c3 : w.cell? ⟨b0, o0 + 3, none⟩ = some (.int .u8 x3)) :
    Calls Tryd.prog 63 #[.slice (some ⟨b0, o0, none⟩) n c] w fun e w' => ∃ k, e = .returned (.int .u32 (word4 x0 x1 x2 x3)) ∧ w' = w.drewN k := by
  have n0 : (4 : Int) ≤ (n : Int) := by omega
  unfold word4
  go_enter Tryd.func63, Tryd.ntmps63
  go_wp2
  go_quiet (fail)
  go_wp2
  go_ret
  exact ⟨_, rfl, rfl⟩
def u32A (l : List Int) : Array Value := (l.map (Value.int .u32)).toArray
def u8A (l : List Int) : Array Value := (l.map (Value.int .u8)).toArray
def byteL (l : List Int) : Prop := ∀ c ∈ l, 0 ≤ c ∧ c < 256
theorem u32A_get (l : List Int) (i : Nat) (h : i < l.length) : (u32A l)[i]? = some (.int .u32 l[i]) := by simp [u32A, h]
theorem u8A_get (l : List Int) (i : Nat) (h : i < l.length) : (u8A l)[i]? = some (.int .u8 l[i]) := by simp [u8A, h]
theorem u32A_getD (l : List Int) (i : Nat) (h : i < l.length) : (u32A l)[i]? = some (.int .u32 (l.getD i 0)) := by simp [u32A, h, List.getD_eq_getElem?_getD]
theorem u32A_set (l : List Int) (i : Nat) (z : Int) : (u32A l).setIfInBounds i (.int .u32 z) = u32A (l.set i z) := by simp [u32A, List.map_set]
def z64 : List Int := List.replicate 64 0

theorem World.size_alloc9 (w : World) (o : Obj) : (w.alloc o).heap.size = w.heap.size + 1 := by simp
end Go.Proofs.YtmppagiaonbggaaDoor

/- The table of package digest lies in the world. -/
namespace Go.Proofs.YtmppagiaonbggaaDoor
set_option linter.unusedVariables false
set_option linter.unusedSimpArgs false
set_option maxRecDepth 100000
open Go.RowKit

theorem begin0 : ((begin Tryd.prog (fun _ _ => 0) default).world.heap[0]?).bind Obj.row? = some (u32A (List.replicate 64 0), 96) := by kernel_rfl
def intOf : Value → Int
  | .int _ z => z
  | _ => 0
theorem table_any {w : World} (h : Sh w) : ∃ T : List Int, T.length = 64 ∧ w.heap[0]? = some (.cells (u32A T) 96) := by
  have hg : 0 < Tryd.prog.globals.size := of_decide_eq_true (by kernel_rfl)
  obtain ⟨cs, hh, hs, hr⟩ := h.1 0 _ _ hg begin0
  obtain ⟨ts, hts, hlen, hall⟩ := hr (by kernel_rfl)
  have hct : Tryd.prog.cellTypes Tryd.prog.depth 96 = some (List.replicate 64 78) := by kernel_rfl
  rw [hct] at hts
  cases hts
  have hz : cs.size = 64 := by rw [hs]; simp [u32A]
  have hu := Tryd.underlying78
  have hel : ∀ i (h : i < cs.size), ∃ z : Int, cs[i] = .int .u32 z := by
    intro i hi
    obtain ⟨u, hu', hok⟩ := hall i cs[i] (by simp [hi])
    have : u = 78 := by
      have hlt : i % (List.replicate 64 78).length < 64 := Nat.mod_lt _ (by simp)
      rw [List.getElem?_replicate, if_pos hlt] at hu'
      exact (Option.some.inj hu').symm
    subst this
    unfold Cell.ok at hok
    rw [hu] at hok
    cases hv : cs[i] <;> rw [hv] at hok <;> simp at hok
    obtain ⟨rfl, _⟩ := hok
    exact ⟨_, rfl⟩
  refine ⟨cs.toList.map intOf, by simp [hz], ?_⟩
  rw [hh]
  congr 2
  apply Array.ext
  · simp [u32A]
  · intro i h1 h2
    obtain ⟨z, hzv⟩ := hel i h1
    simp [u32A, hzv, intOf]
theorem index64 (T : List Int) (hT : T.length = 64) (i : Nat) (hi : i < 64) (w : World) : (Instr.index 96 (.agg (u32A T)) (.int .i64 (i : Int))).run Tryd.prog w = .ok (.int .u32 (T.getD i 0)) w := by
  have h := Tryd.underlying96
  have hc : Tryd.prog.cellsOf 78 = 1 := by kernel_rfl
  have hb : (0 : Int) ≤ (i : Int) ∧ (i : Int) < 64 := by omega
  have hu := Tryd.underlying78
  have hg := u32A_getD T i (by omega)
  rw [List.getD_eq_getElem?_getD] at hg
  simp [Instr.index, run_underlying h, asIntOf, hb, go_sem, hi, hg]
theorem Own.set8 {B X : Nat} {T : TypeId} {R : HP} [Loc B R] {x0 x1 x2 x3 x4 x5 x6 x7 : Value} {w : World} (hB : B ≤ w.heap.size) (h : Own B (Bk X T #[x0, x1, x2, x3, x4, x5, x6, x7] * R) w) (y0 y1 y2 y3 y4 y5 y6 y7 : Value) :
    Own B (Bk X T #[y0, y1, y2, y3, y4, y5, y6, y7] * R) ((((((((w.setCell ⟨X, 0, none⟩ y0).setCell ⟨X, 1, none⟩ y1).setCell ⟨X, 2, none⟩ y2).setCell ⟨X, 3, none⟩ y3).setCell ⟨X, 4, none⟩ y4).setCell ⟨X, 5, none⟩ y5).setCell ⟨X, 6, none⟩ y6).setCell ⟨X, 7, none⟩ y7) ∧
    Below B w ((((((((w.setCell ⟨X, 0, none⟩ y0).setCell ⟨X, 1, none⟩ y1).setCell ⟨X, 2, none⟩ y2).setCell ⟨X, 3, none⟩ y3).setCell ⟨X, 4, none⟩ y4).setCell ⟨X, 5, none⟩ y5).setCell ⟨X, 6, none⟩ y6).setCell ⟨X, 7, none⟩ y7) := by
  have s0 : Own B (Bk X T #[y0, x1, x2, x3, x4, x5, x6, x7] * R) _ := h.set hB 0 y0
  have t0 := h.below_set 0 y0
  have b1 := Nat.le_trans hB t0.size
  have s1 : Own B (Bk X T #[y0, y1, x2, x3, x4, x5, x6, x7] * R) _ := s0.set b1 1 y1
  have t1 := s0.below_set 1 y1
  have b2 := Nat.le_trans b1 t1.size
  have s2 : Own B (Bk X T #[y0, y1, y2, x3, x4, x5, x6, x7] * R) _ := s1.set b2 2 y2
  have t2 := s1.below_set 2 y2
  have b3 := Nat.le_trans b2 t2.size
  have s3 : Own B (Bk X T #[y0, y1, y2, y3, x4, x5, x6, x7] * R) _ := s2.set b3 3 y3
  have t3 := s2.below_set 3 y3
  have b4 := Nat.le_trans b3 t3.size
  have s4 : Own B (Bk X T #[y0, y1, y2, y3, y4, x5, x6, x7] * R) _ := s3.set b4 4 y4
  have t4 := s3.below_set 4 y4
  have b5 := Nat.le_trans b4 t4.size
  have s5 : Own B (Bk X T #[y0, y1, y2, y3, y4, y5, x6, x7] * R) _ := s4.set b5 5 y5
  have t5 := s4.below_set 5 y5
  have b6 := Nat.le_trans b5 t5.size
  have s6 : Own B (Bk X T #[y0, y1, y2, y3, y4, y5, y6, x7] * R) _ := s5.set b6 6 y6
  have t6 := s5.below_set 6 y6
  have b7 := Nat.le_trans b6 t6.size
  have s7 : Own B (Bk X T #[y0, y1, y2, y3, y4, y5, y6, y7] * R) _ := s6.set b7 7 y7
  have t7 := s6.below_set 7 y7
  exact ⟨s7, (((((((t0.trans t1).trans t2).trans t3).trans t4).trans t5).trans t6).trans t7)⟩
theorem list8 (l : List Int) (h : l.length = 8) : ∃ t0 t1 t2 t3 t4 t5 t6 t7, l = [t0, t1, t2, t3, t4, t5, t6, t7] := by
  match l, h with
  | [a, b, c, d, e, f, g, i], _ => exact ⟨a, b, c, d, e, f, g, i, rfl⟩
end Go.Proofs.YtmppagiaonbggaaDoor

/- The walk over Block of package digest: what it computes. -/
namespace Go.Proofs.YtmppagiaonbggaaDoor
set_option linter.unusedVariables false
set_option linter.unusedSimpArgs false
set_option maxRecDepth 100000
open Go.RowKit

theorem slice_array (X m : Nat) (hm : m < 64) (w : World) : (Instr.sliceAt 82 (.pointer (some ⟨X, 0, none⟩)) (some (.int .i64 (m : Int))) none none).run Tryd.prog w = .ok (.slice (some ⟨X, m, none⟩) (64 - m) (64 - m)) w := by
  have hal : Tryd.prog.arrayLen 82 = 64 := by kernel_rfl
  have hel : Tryd.prog.elem 82 = 5 := by kernel_rfl
  obtain ⟨i0, hi, hz0, hz1, hz2⟩ := info_parts infoU8
  have ht : Tryd.prog.underlying 82 = some (.array (Tryd.prog.arrayLen 82) (Tryd.prog.elem 82)) := by kernel_rfl
  rw [run_sliceAt_array_l w 82 ⟨X, 0, none⟩ ht .i64 (m : Int) (by omega) (by rw [hal]; omega), hel, hal]
  have hne : ¬ 64 = m := by omega
  simp [sizeOf, typeInfo, hi, hz1, slicedAt, Addr.add, hne]
  intro h
  omega
/-! what Block computes -/
def wsA (x ws : List Int) (i : Nat) : List Int := ws.set i (word4 (x.getD (4 * i) 0) (x.getD (4 * i + 1) 0) (x.getD (4 * i + 2) 0) (x.getD (4 * i + 3) 0))
def wNew (x16 xv x7 yv : Int) : Int := (x16 + bits .xor .u32 (bits .xor .u32 (turn7 xv) (turn18 xv)) (xv / 8) + x7 + bits .xor .u32 (bits .xor .u32 (turn17 yv) (turn19 yv)) (yv / 1024)) % 4294967296
def wsB (ws : List Int) (i : Nat) : List Int := ws.set i (wNew (ws.getD (i - 16) 0) (ws.getD (i - 15) 0) (ws.getD (i - 7) 0) (ws.getD (i - 2) 0))
def sched (x : List Int) : Nat → List Int
  | 0 => z64
  | i + 1 => if i < 16 then wsA x (sched x i) i else wsB (sched x i) i
structure S8 where
  a : Int
  b : Int
  c : Int
  d : Int
  e : Int
  f : Int
  g : Int
  h : Int
def stepT (k w : Int) (s : S8) : Int := s.h + bits .xor .u32 (bits .xor .u32 (turn6 s.e) (turn11 s.e)) (turn25 s.e) + bits .or .u32 (bits .and .u32 s.e s.f) (bits .and .u32 (bits .xor .u32 IntKind.u32.max s.e) s.g) + k + w
def stepU (s : S8) : Int := bits .xor .u32 (bits .xor .u32 (turn2 s.a) (turn13 s.a)) (turn22 s.a) + bits .xor .u32 (bits .xor .u32 (bits .and .u32 s.a s.b) (bits .and .u32 s.a s.c)) (bits .and .u32 s.b s.c)
def stepR (k w : Int) (s : S8) : S8 := ⟨(stepT k w s + stepU s) % 4294967296, s.a, s.b, s.c, (s.d + stepT k w s) % 4294967296, s.e, s.f, s.g⟩
def rounds (T W : List Int) (s : S8) : Nat → S8
  | 0 => s
  | i + 1 => stepR (T.getD i 0) (W.getD i 0) (rounds T W s i)
def addTo (S l : List Int) : Nat → List Int
  | 0 => l
  | i + 1 => (addTo S l i).set i (((addTo S l i).getD i 0 + S.getD i 0) % 4294967296)
def S8.list (s : S8) : List Int := [s.a, s.b, s.c, s.d, s.e, s.f, s.g, s.h]
def blockF (T : List Int) (s : S8) (x : List Int) : List Int := addTo s.list (rounds T (sched x 64) s 64).list 8
theorem addTo_length (S : List Int) : ∀ (n : Nat) (l : List Int), (addTo S l n).length = l.length
  | 0, _ => rfl
  | n + 1, l => by rw [addTo, List.length_set, addTo_length S n l]
theorem blockF_length (T : List Int) (s : S8) (x : List Int) : (blockF T s x).length = 8 := by unfold blockF; rw [addTo_length]; rfl

set_option maxHeartbeats 1600000 in
theorem block_ex (s0 s1 s2 s3 s4 s5 s6 s7 : Int) (x : List Int) (hx : x.length = 64) (hxb : byteL x) (T : List Int) (hT : T.length = 64) (w : World) (hTw : w.heap[0]? = some (.cells (u32A T) 96)) :
    Calls Tryd.prog 43 #[.agg #[.int .u32 s0, .int .u32 s1, .int .u32 s2, .int .u32 s3, .int .u32 s4, .int .u32 s5, .int .u32 s6, .int .u32 s7], .agg (u8A x)] w
      fun e w' => e = .returned (.agg (u32A (blockF T ⟨s0, s1, s2, s3, s4, s5, s6, s7⟩ x))) ∧ Below w.heap.size w w' := by
  have o0 := (Own.start w.heap.size w).new (Nat.le_refl _) 79 #[.int .u32 s0, .int .u32 s1, .int .u32 s2, .int .u32 s3, .int .u32 s4, .int .u32 s5, .int .u32 s6, .int .u32 s7]
  have b0 := (Below.refl w.heap.size w).alloc (Nat.le_refl _) (.cells #[.int .u32 s0, .int .u32 s1, .int .u32 s2, .int .u32 s3, .int .u32 s4, .int .u32 s5, .int .u32 s6, .int .u32 s7] 79)
  have o1 := o0.new b0.size 82 (u8A x)
  have b1 := b0.alloc b0.size (.cells (u8A x) 82)
  have o2 := o1.new b1.size 79 #[.int .u32 0, .int .u32 0, .int .u32 0, .int .u32 0, .int .u32 0, .int .u32 0, .int .u32 0, .int .u32 0]
  have b2 := b1.alloc b1.size (.cells #[.int .u32 0, .int .u32 0, .int .u32 0, .int .u32 0, .int .u32 0, .int .u32 0, .int .u32 0, .int .u32 0] 79)
  have o3 := o2.new b2.size 96 (u32A z64)
  have b3 := b2.alloc b2.size (.cells (u32A z64) 96)
  simp only [World.size_alloc9] at o3
  have hz : z64.length = 64 := List.length_replicate ..
  clear o0 b0 o1 b1 o2 b2
  have hTs : (u32A T).size = 64 := by simp [u32A, hT]
  have hpos : 0 < w.heap.size := (Array.getElem?_eq_some_iff.1 hTw).1
  have HT := Lib.hid (fun W (h : Below w.heap.size w W) => (h.block 0 hpos).trans hTw)
  clear hTw hpos
  go_enter Tryd.func43, Tryd.ntmps43
  go_wp2
  generalize hX0 : w.heap.size = X0 at *
  obtain ⟨X1, hX1⟩ : ∃ X1, X0 + 1 = X1 := ⟨_, rfl⟩
  rw [hX1] at o3 ⊢
  obtain ⟨X2, hX2⟩ : ∃ X2, X1 + 1 = X2 := ⟨_, rfl⟩
  rw [hX2] at o3 ⊢
  obtain ⟨X3, hX3⟩ : ∃ X3, X2 + 1 = X3 := ⟨_, rfl⟩
  rw [hX3] at o3 ⊢
  clear hX1 hX2 hX3
  go_loopg [18] 16 (fun kk v18 wr => ∃ (i : Nat) (ws : List Int), kk + i = 16 ∧ v18 = .int .i64 (i : Int) ∧ ws.length = 64 ∧ Hid (ws = sched x i) ∧ Own X0 (Bk X3 96 (u32A ws) * (Bk X0 79 #[.int .u32 s0, .int .u32 s1, .int .u32 s2, .int .u32 s3, .int .u32 s4, .int .u32 s5, .int .u32 s6, .int .u32 s7] * (Bk X1 82 (u8A x) * (Bk X2 79 #[.int .u32 0, .int .u32 0, .int .u32 0, .int .u32 0, .int .u32 0, .int .u32 0, .int .u32 0, .int .u32 0] * Emp)))) wr ∧ Below X0 w wr)
  case atStart => exact ⟨0, z64, rfl, rfl, hz, Lib.hid rfl, o3.cast (by ac_rfl), b3⟩
  case round =>
    clear o3 b3
    obtain ⟨i, ws, hk, rfl, hws, hsc, ho, hb⟩ := hrel
    have i0 : (0 : Int) ≤ (i : Int) := by omega
    have Bw : X0 ≤ wr.heap.size := by rw [← hX0]; exact hb.size
    by_cases hlt : (i : Int) < 16
    · obtain ⟨j, rfl⟩ : ∃ j, gk = j + 1 := ⟨gk - 1, by omega⟩
      have g := fun q (hq : q < 64) => (ho.cellOf X1 q).trans (u8A_get x q (by omega))
      have HW := Lib.hid (word_any X1 (4 * i) (64 - 4 * i) (64 - 4 * i) (x[4 * i]'(by omega)) (x[4 * i + 1]'(by omega)) (x[4 * i + 2]'(by omega)) (x[4 * i + 3]'(by omega)) wr (by omega) (hxb _ (List.getElem_mem _)) (hxb _ (List.getElem_mem _)) (hxb _ (List.getElem_mem _)) (hxb _ (List.getElem_mem _)) (g (4 * i) (by omega)) (g (4 * i + 1) (by omega)) (g (4 * i + 2) (by omega)) (g (4 * i + 3) (by omega)))
      have Hsc : Hid (ws.set i (word4 (x[4 * i]'(by omega)) (x[4 * i + 1]'(by omega)) (x[4 * i + 2]'(by omega)) (x[4 * i + 3]'(by omega))) = sched x (i + 1)) := Lib.hid (by
        rw [sched, if_pos (by omega), ← hsc.out]
        unfold wsA
        have e : ∀ q (hq : q < x.length), x.getD q 0 = x[q] := fun q hq => by simp [List.getD_eq_getElem?_getD, hq]
        rw [e _ (by omega), e _ (by omega), e _ (by omega), e _ (by omega)])
      clear hsc
      generalize word4 (x[4 * i]'(by omega)) (x[4 * i + 1]'(by omega)) (x[4 * i + 2]'(by omega)) (x[4 * i + 3]'(by omega)) = z at *
      clear g
      obtain ⟨m, hm⟩ : ∃ m, 4 * i = m := ⟨_, rfl⟩
      rw [hm] at HW
      have e1 : (4 : Int) * (i : Int) = (m : Int) := by omega
      have e2 : (m : Int) ≤ 60 := by omega
      have e3 : (0 : Int) ≤ (m : Int) := by omega
      have e4 : ¬ 64 = m := by omega
      have hi64 : i < ws.length := by omega
      have cw : wr.cell? ⟨X3, i, none⟩ = some (.int .u32 ws[i]) := (ho.cell i).trans (u32A_get ws i hi64)
      have Hk := Lib.hid (And.intro hk hws)
      have hsl := slice_array X1 m (by omega) wr
      clear hm hk hws
      go_wp2_with fail
      refine HW.out.mono ?_
      rintro e w2 ⟨kd, rfl, rfl⟩
      have ho2 := ho.drewN Bw kd
      have hb2 := below_drewN hb kd
      have B2 : X0 ≤ (wr.drewN kd).heap.size := Bw
      generalize wr.drewN kd = w2 at *
      have cw2 : w2.cell? ⟨X3, i, none⟩ = some (.int .u32 ws[i]) := (ho2.cell i).trans (u32A_get ws i hi64)
      have z2 := ho2.unfrozen i
      have s2' := ho2.set B2 i (.int .u32 z)
      have t2 := ho2.below_set i (.int .u32 z)
      rw [u32A_set] at s2'
      have hb3 := hb2.trans t2
      have Fin := Lib.hid (And.intro s2' hb3)
      clear s2' t2 hb3 hb2 ho2 ho hb HW cw
      generalize ws.getD i 0 = wi at *
      go_wp2
      go_roundg j
      case measure => omega
      case rel => exact ⟨i + 1, ws.set i z, by have := Hk.out.1; omega, rfl, by rw [List.length_set]; exact Hk.out.2, Hsc, Fin.out.1, Fin.out.2⟩
    · obtain rfl : i = 16 := by omega
      go_wp2
      go_loopg [7] 48 (fun kk v7 wr => ∃ (i : Nat) (ws : List Int), kk + i = 64 ∧ 16 ≤ i ∧ v7 = .int .i64 (i : Int) ∧ ws.length = 64 ∧ Hid (ws = sched x i) ∧ Own X0 (Bk X3 96 (u32A ws) * (Bk X0 79 #[.int .u32 s0, .int .u32 s1, .int .u32 s2, .int .u32 s3, .int .u32 s4, .int .u32 s5, .int .u32 s6, .int .u32 s7] * (Bk X1 82 (u8A x) * (Bk X2 79 #[.int .u32 0, .int .u32 0, .int .u32 0, .int .u32 0, .int .u32 0, .int .u32 0, .int .u32 0, .int .u32 0] * Emp)))) wr ∧ Below X0 w wr)
      case atStart => exact ⟨16, ws, rfl, by omega, rfl, hws, hsc, ho, hb⟩
      case round =>
        clear ho hb hk hws hsc
        obtain ⟨i, ws, hk, hi16, rfl, hws, hsc, ho, hb⟩ := hrel
        have i0 : (16 : Int) ≤ (i : Int) := by omega
        have Bw : X0 ≤ wr.heap.size := by rw [← hX0]; exact hb.size
        by_cases hlt : (i : Int) < 64
        · obtain ⟨j, rfl⟩ : ∃ j, gk = j + 1 := ⟨gk - 1, by omega⟩
          obtain ⟨i15, h15⟩ : ∃ q, q + 15 = i := ⟨i - 15, by omega⟩
          obtain ⟨i2, h2⟩ : ∃ q, q + 2 = i := ⟨i - 2, by omega⟩
          obtain ⟨i16, h16⟩ : ∃ q, q + 16 = i := ⟨i - 16, by omega⟩
          obtain ⟨i7, h7⟩ : ∃ q, q + 7 = i := ⟨i - 7, by omega⟩
          have g := fun W (h : Own X0 (Bk X3 96 (u32A ws) * (Bk X0 79 #[.int .u32 s0, .int .u32 s1, .int .u32 s2, .int .u32 s3, .int .u32 s4, .int .u32 s5, .int .u32 s6, .int .u32 s7] * (Bk X1 82 (u8A x) * (Bk X2 79 #[.int .u32 0, .int .u32 0, .int .u32 0, .int .u32 0, .int .u32 0, .int .u32 0, .int .u32 0, .int .u32 0] * Emp)))) W) q (hq : q < 64) => (h.cellOf X3 q).trans (u32A_getD ws q (by omega))
          have f15 : (i : Int) - 15 = (i15 : Int) := by omega
          have f2 : (i : Int) - 2 = (i2 : Int) := by omega
          have f16 : (i : Int) - 16 = (i16 : Int) := by omega
          have f7 : (i : Int) - 7 = (i7 : Int) := by omega
          have l15 : (i15 : Int) < 64 := by omega
          have l2 : (i2 : Int) < 64 := by omega
          have l16 : (i16 : Int) < 64 := by omega
          have l7 : (i7 : Int) < 64 := by omega
          have p15 : (0 : Int) ≤ (i15 : Int) := by omega
          have p2 : (0 : Int) ≤ (i2 : Int) := by omega
          have p16 : (0 : Int) ≤ (i16 : Int) := by omega
          have p7 : (0 : Int) ≤ (i7 : Int) := by omega
          have G := Lib.hid (fun W h => And.intro (g W h i15 (by omega)) (And.intro (g W h i2 (by omega)) (And.intro (g W h i16 (by omega)) (And.intro (g W h i7 (by omega)) (g W h i (by omega))))))
          have c15 := (G.out wr ho).1
          have c2 := (G.out wr ho).2.1
          have Hk := Lib.hid (And.intro hk (And.intro hi16 hws))
          have Hsc : Hid (ws.set i (wNew (ws.getD i16 0) (ws.getD i15 0) (ws.getD i7 0) (ws.getD i2 0)) = sched x (i + 1)) := Lib.hid (by
            rw [sched, if_neg (by omega), ← hsc.out]
            unfold wsB
            rw [show i - 16 = i16 by omega, show i - 15 = i15 by omega, show i - 7 = i7 by omega, show i - 2 = i2 by omega])
          clear g h15 h2 h16 h7 hk hi16 hws hsc
          generalize ws.getD i15 0 = xv at *
          generalize ws.getD i2 0 = yv at *
          generalize ws.getD i16 0 = x16 at *
          generalize ws.getD i7 0 = x7 at *
          generalize ws.getD i 0 = xi at *
          go_wp2
          go_quiet (fail)
          go_wp2
          have ho := ho.drewN Bw nq
          have hb := below_drewN hb nq
          have Bw : X0 ≤ (wr.drewN nq).heap.size := Bw
          clear c15 c2
          generalize wr.drewN nq = wr at *
          refine wp_region_mix (St X0 _ wr) [0, 1, 2, 3, 4, 5, 6, 7, 8, 9, 10, 11, 12, 13, 14, 15, 16, 17, 18, 19, 20, 21, 22, 23, 24, 25, 26, 27, 28] [29] mixed (by kernel_rfl) rfl (St.drew Bw ho) ?_
          simp only [List.filterMap_cons, List.filterMap_nil, List.getElem?_toArray, List.getElem?_cons_succ, List.getElem?_cons_zero]
          repeat (first
            | (refine held_val ?_ rfl (fun w1 hS => ?_) ?_
               rotate_left
               · (have c16 := (G.out w1 hS.2.1).2.2.1
                  go_simp
                  try go_bits
                  rfl)
               simp only [Act.put, List.setIfInBounds_toArray, List.set_cons_zero, List.set_cons_succ])
            | (refine held_off rfl ?_
               simp only [Act.put, List.setIfInBounds_toArray, List.set_cons_zero, List.set_cons_succ]))
          refine held_call 64 #[.int .u32 xv, .int .i64 7] (.int .u32 (turn7 xv)) rfl (fun w1 hS => by go_simp) (fun w1 hS => (turn7_any xv w1).mono ?_) ?_
          · rintro e w2 ⟨rfl, rfl⟩
            exact ⟨rfl, hS⟩
          simp only [Act.put, List.setIfInBounds_toArray, List.set_cons_zero, List.set_cons_succ]
          repeat (first
            | (refine held_val ?_ rfl (fun w1 hS => ?_) ?_
               rotate_left
               · (skip
                  go_simp
                  try go_bits
                  rfl)
               simp only [Act.put, List.setIfInBounds_toArray, List.set_cons_zero, List.set_cons_succ])
            | (refine held_off rfl ?_
               simp only [Act.put, List.setIfInBounds_toArray, List.set_cons_zero, List.set_cons_succ]))
          refine held_call 64 #[.int .u32 xv, .int .i64 18] (.int .u32 (turn18 xv)) rfl (fun w1 hS => by go_simp) (fun w1 hS => (turn18_any xv w1).mono ?_) ?_
          · rintro e w2 ⟨rfl, rfl⟩
            exact ⟨rfl, hS⟩
          simp only [Act.put, List.setIfInBounds_toArray, List.set_cons_zero, List.set_cons_succ]
          repeat (first
            | (refine held_val ?_ rfl (fun w1 hS => ?_) ?_
               rotate_left
               · (have c16 := (G.out w1 hS.2.1).2.2.1; have c7 := (G.out w1 hS.2.1).2.2.2.1
                  go_simp
                  try go_bits
                  rfl)
               simp only [Act.put, List.setIfInBounds_toArray, List.set_cons_zero, List.set_cons_succ])
            | (refine held_off rfl ?_
               simp only [Act.put, List.setIfInBounds_toArray, List.set_cons_zero, List.set_cons_succ]))
          refine held_call 64 #[.int .u32 yv, .int .i64 17] (.int .u32 (turn17 yv)) rfl (fun w1 hS => by go_simp) (fun w1 hS => (turn17_any yv w1).mono ?_) ?_
          · rintro e w2 ⟨rfl, rfl⟩
            exact ⟨rfl, hS⟩
          simp only [Act.put, List.setIfInBounds_toArray, List.set_cons_zero, List.set_cons_succ]
          repeat (first
            | (refine held_val ?_ rfl (fun w1 hS => ?_) ?_
               rotate_left
               · (skip
                  go_simp
                  try go_bits
                  rfl)
               simp only [Act.put, List.setIfInBounds_toArray, List.set_cons_zero, List.set_cons_succ])
            | (refine held_off rfl ?_
               simp only [Act.put, List.setIfInBounds_toArray, List.set_cons_zero, List.set_cons_succ]))
          refine held_call 64 #[.int .u32 yv, .int .i64 19] (.int .u32 (turn19 yv)) rfl (fun w1 hS => by go_simp) (fun w1 hS => (turn19_any yv w1).mono ?_) ?_
          · rintro e w2 ⟨rfl, rfl⟩
            exact ⟨rfl, hS⟩
          simp only [Act.put, List.setIfInBounds_toArray, List.set_cons_zero, List.set_cons_succ]
          repeat (first
            | (refine held_val ?_ rfl (fun w1 hS => ?_) ?_
               rotate_left
               · (have ci := (G.out w1 hS.2.1).2.2.2.2
                  go_simp
                  try go_bits
                  rfl)
               simp only [Act.put, List.setIfInBounds_toArray, List.set_cons_zero, List.set_cons_succ])
            | (refine held_off rfl ?_
               simp only [Act.put, List.setIfInBounds_toArray, List.set_cons_zero, List.set_cons_succ]))
          refine held_nil (fun w9 hS => ?_)
          obtain ⟨B9, o9, b9⟩ := hS
          have hb9 := hb.trans b9
          have ci := (G.out w9 o9).2.2.2.2
          have zi := o9.unfrozen i
          have Fin := Lib.hid (fun z => (And.intro ((u32A_set ws i z) ▸ (o9.set B9 i (.int .u32 z))) (hb9.trans (o9.below_set i (.int .u32 z)))))
          clear ho hb o9 b9 hb9 G
          go_wp2
          go_roundg j
          case measure => omega
          case rel => exact ⟨i + 1, ws.set i _, by have := Hk.out.1; omega, by have := Hk.out.2.1; omega, rfl, by rw [List.length_set]; exact Hk.out.2.2, Hsc, (Fin.out _).1, (Fin.out _).2⟩
        · obtain rfl : i = 64 := by omega
          have c0 := ho.cellOf X0 0
          have c1 := ho.cellOf X0 1
          have c2 := ho.cellOf X0 2
          have c3 := ho.cellOf X0 3
          have c4 := ho.cellOf X0 4
          have c5 := ho.cellOf X0 5
          have c6 := ho.cellOf X0 6
          have c7 := ho.cellOf X0 7
          have o10 := ho.new Bw 79 #[.int .u32 s0, .int .u32 s1, .int .u32 s2, .int .u32 s3, .int .u32 s4, .int .u32 s5, .int .u32 s6, .int .u32 s7]
          have b10 := hb.alloc Bw (.cells #[.int .u32 s0, .int .u32 s1, .int .u32 s2, .int .u32 s3, .int .u32 s4, .int .u32 s5, .int .u32 s6, .int .u32 s7] 79)
          have HT2 := Lib.hid (HT.out _ b10)
          obtain ⟨X4, hX4⟩ : ∃ X4, wr.heap.size = X4 := ⟨_, rfl⟩
          go_wp2_with (refine wpList_load_row rfl 96 (.global 0) rfl 0 rfl 96 (u32A T) (0, 0) _ HT2.out Tryd.underlying96 rfl (by rw [hTs]; kernel_rfl) ?_)
          rw [hX4] at o10
          have o10 := o10.cast (show _ = Bk X4 79 #[.int .u32 s0, .int .u32 s1, .int .u32 s2, .int .u32 s3, .int .u32 s4, .int .u32 s5, .int .u32 s6, .int .u32 s7] * (Bk X3 96 (u32A ws) * (Bk X0 79 #[.int .u32 s0, .int .u32 s1, .int .u32 s2, .int .u32 s3, .int .u32 s4, .int .u32 s5, .int .u32 s6, .int .u32 s7] * (Bk X2 79 #[.int .u32 0, .int .u32 0, .int .u32 0, .int .u32 0, .int .u32 0, .int .u32 0, .int .u32 0, .int .u32 0] * (Bk X1 82 (u8A x) * Emp)))) by ac_rfl)
          go_loopg [71] 64 (fun kk v71 wr => ∃ (i : Nat) (a0 a1 a2 a3 a4 a5 a6 a7 : Int), kk + i = 64 ∧ v71 = .int .i64 (i : Int) ∧ Hid ((⟨a0, a1, a2, a3, a4, a5, a6, a7⟩ : S8) = rounds T (sched x 64) ⟨s0, s1, s2, s3, s4, s5, s6, s7⟩ i) ∧ Own X0 (Bk X4 79 #[.int .u32 a0, .int .u32 a1, .int .u32 a2, .int .u32 a3, .int .u32 a4, .int .u32 a5, .int .u32 a6, .int .u32 a7] * (Bk X3 96 (u32A ws) * (Bk X0 79 #[.int .u32 s0, .int .u32 s1, .int .u32 s2, .int .u32 s3, .int .u32 s4, .int .u32 s5, .int .u32 s6, .int .u32 s7] * (Bk X2 79 #[.int .u32 0, .int .u32 0, .int .u32 0, .int .u32 0, .int .u32 0, .int .u32 0, .int .u32 0, .int .u32 0] * (Bk X1 82 (u8A x) * Emp))))) wr ∧ Below X0 w wr)
          case atStart => exact ⟨0, s0, s1, s2, s3, s4, s5, s6, s7, rfl, rfl, Lib.hid rfl, o10, b10⟩
          case round =>
            clear o10 b10 ho hb HT2 HT c0 c1 c2 c3 c4 c5 c6 c7 Bw hX4
            obtain ⟨i, a0, a1, a2, a3, a4, a5, a6, a7, hk, rfl, hrd, ho, hb⟩ := hrel
            have Bw : X0 ≤ wr.heap.size := by rw [← hX0]; exact hb.size
            have i0 : (0 : Int) ≤ (i : Int) := by omega
            by_cases hlt : (i : Int) < 64
            · obtain ⟨j, rfl⟩ : ∃ j, gk = j + 1 := ⟨gk - 1, by omega⟩
              have hti := fun W => index64 T hT i (by omega) W
              have c0 : wr.cell? ⟨X4, 0, none⟩ = some (.int .u32 a0) := ho.cell 0
              have c1 : wr.cell? ⟨X4, 1, none⟩ = some (.int .u32 a1) := ho.cell 1
              have c2 : wr.cell? ⟨X4, 2, none⟩ = some (.int .u32 a2) := ho.cell 2
              have c3 : wr.cell? ⟨X4, 3, none⟩ = some (.int .u32 a3) := ho.cell 3
              have c4 : wr.cell? ⟨X4, 4, none⟩ = some (.int .u32 a4) := ho.cell 4
              have c5 : wr.cell? ⟨X4, 5, none⟩ = some (.int .u32 a5) := ho.cell 5
              have c6 : wr.cell? ⟨X4, 6, none⟩ = some (.int .u32 a6) := ho.cell 6
              have c7 : wr.cell? ⟨X4, 7, none⟩ = some (.int .u32 a7) := ho.cell 7
              have cw : wr.cell? ⟨X3, i, none⟩ = some (.int .u32 (ws.getD i 0)) := (ho.cellOf X3 i).trans (u32A_getD ws i (by omega))
              have Hrd : Hid (stepR (T.getD i 0) (ws.getD i 0) ⟨a0, a1, a2, a3, a4, a5, a6, a7⟩ = rounds T (sched x 64) ⟨s0, s1, s2, s3, s4, s5, s6, s7⟩ (i + 1)) := Lib.hid (by rw [rounds, ← hrd.out, ← hsc.out])
              clear hrd
              obtain ⟨wi, hwi⟩ : ∃ wi, wi = ws.getD i 0 := ⟨_, rfl⟩
              have Hwi := Lib.hid hwi
              rw [← hwi] at cw Hrd
              clear hwi
              generalize T.getD i 0 = ti at *
              have Hk := Lib.hid hk
              clear hk
              go_wp2
              go_quiet (fail)
              go_wp2
              have ho := ho.drewN Bw nq
              have hb := below_drewN hb nq
              have Bw : X0 ≤ (wr.drewN nq).heap.size := Bw
              clear c0 c1 c2 c3 c4 c5 c6 c7 cw hti
              generalize wr.drewN nq = wr at *
              have G := Lib.hid (fun W (h : Own X0 (Bk X4 79 #[.int .u32 a0, .int .u32 a1, .int .u32 a2, .int .u32 a3, .int .u32 a4, .int .u32 a5, .int .u32 a6, .int .u32 a7] * (Bk X3 96 (u32A ws) * (Bk X0 79 #[.int .u32 s0, .int .u32 s1, .int .u32 s2, .int .u32 s3, .int .u32 s4, .int .u32 s5, .int .u32 s6, .int .u32 s7] * (Bk X2 79 #[.int .u32 0, .int .u32 0, .int .u32 0, .int .u32 0, .int .u32 0, .int .u32 0, .int .u32 0, .int .u32 0] * (Bk X1 82 (u8A x) * Emp))))) W) =>
                (show W.cell? ⟨X4, 1, none⟩ = some (.int .u32 a1) ∧ W.cell? ⟨X4, 2, none⟩ = some (.int .u32 a2) ∧ W.cell? ⟨X4, 3, none⟩ = some (.int .u32 a3) ∧ W.cell? ⟨X4, 5, none⟩ = some (.int .u32 a5) ∧ W.cell? ⟨X4, 6, none⟩ = some (.int .u32 a6) ∧ W.cell? ⟨X4, 7, none⟩ = some (.int .u32 a7) ∧ W.cell? ⟨X3, i, none⟩ = some (.int .u32 wi) from ⟨h.cell 1, h.cell 2, h.cell 3, h.cell 5, h.cell 6, h.cell 7, (h.cellOf X3 i).trans (by rw [Hwi.out]; exact u32A_getD ws i (by omega))⟩))
              refine wp_region_mix (St X0 _ wr) [0, 1, 2, 3, 4, 5, 6, 7, 8, 9, 10, 11, 12, 13, 14, 15, 16, 17, 18, 19, 20, 21, 22, 23, 24, 25, 26, 27] [28] mixed (by kernel_rfl) rfl (St.drew Bw ho) ?_
              simp only [List.filterMap_cons, List.filterMap_nil, List.getElem?_toArray, List.getElem?_cons_succ, List.getElem?_cons_zero]
              repeat (first
                | (refine held_val ?_ rfl (fun w1 hS => ?_) ?_
                   rotate_left
                   · (have k := (G.out w1 hS.2.1).2.2.2.2.2.1
                      go_simp
                      try go_bits
                      rfl)
                   simp only [Act.put, List.setIfInBounds_toArray, List.set_cons_zero, List.set_cons_succ])
                | (refine held_off rfl ?_
                   simp only [Act.put, List.setIfInBounds_toArray, List.set_cons_zero, List.set_cons_succ]))
              refine held_call 64 #[.int .u32 a4, .int .i64 6] (.int .u32 (turn6 a4)) rfl (fun w1 hS => by go_simp) (fun w1 hS => (turn6_any a4 w1).mono ?_) ?_
              · rintro e w2 ⟨rfl, rfl⟩
                exact ⟨rfl, hS⟩
              simp only [Act.put, List.setIfInBounds_toArray, List.set_cons_zero, List.set_cons_succ]
              repeat (first
                | (refine held_val ?_ rfl (fun w1 hS => ?_) ?_
                   rotate_left
                   · (skip
                      go_simp
                      try go_bits
                      rfl)
                   simp only [Act.put, List.setIfInBounds_toArray, List.set_cons_zero, List.set_cons_succ])
                | (refine held_off rfl ?_
                   simp only [Act.put, List.setIfInBounds_toArray, List.set_cons_zero, List.set_cons_succ]))
              refine held_call 64 #[.int .u32 a4, .int .i64 11] (.int .u32 (turn11 a4)) rfl (fun w1 hS => by go_simp) (fun w1 hS => (turn11_any a4 w1).mono ?_) ?_
              · rintro e w2 ⟨rfl, rfl⟩
                exact ⟨rfl, hS⟩
              simp only [Act.put, List.setIfInBounds_toArray, List.set_cons_zero, List.set_cons_succ]
              repeat (first
                | (refine held_val ?_ rfl (fun w1 hS => ?_) ?_
                   rotate_left
                   · (skip
                      go_simp
                      try go_bits
                      rfl)
                   simp only [Act.put, List.setIfInBounds_toArray, List.set_cons_zero, List.set_cons_succ])
                | (refine held_off rfl ?_
                   simp only [Act.put, List.setIfInBounds_toArray, List.set_cons_zero, List.set_cons_succ]))
              refine held_call 64 #[.int .u32 a4, .int .i64 25] (.int .u32 (turn25 a4)) rfl (fun w1 hS => by go_simp) (fun w1 hS => (turn25_any a4 w1).mono ?_) ?_
              · rintro e w2 ⟨rfl, rfl⟩
                exact ⟨rfl, hS⟩
              simp only [Act.put, List.setIfInBounds_toArray, List.set_cons_zero, List.set_cons_succ]
              repeat (first
                | (refine held_val ?_ rfl (fun w1 hS => ?_) ?_
                   rotate_left
                   · (have k5 := (G.out w1 hS.2.1).2.2.2.1; have k6 := (G.out w1 hS.2.1).2.2.2.2.1; have kw := (G.out w1 hS.2.1).2.2.2.2.2.2
                      go_simp
                      try go_bits
                      rfl)
                   simp only [Act.put, List.setIfInBounds_toArray, List.set_cons_zero, List.set_cons_succ])
                | (refine held_off rfl ?_
                   simp only [Act.put, List.setIfInBounds_toArray, List.set_cons_zero, List.set_cons_succ]))
              refine held_nil (fun w9 hS => ?_)
              obtain ⟨B9, o9, b9⟩ := hS
              have hb9 := hb.trans b9
              clear ho hb b9 Bw
              go_wp2
              refine wp_region_mix (St X0 _ w9) [0, 1, 2, 3, 4, 5, 6, 7, 8, 9, 10, 11, 12, 13, 14, 15, 16, 17, 18, 19, 20, 21, 22, 23] [24] mixed (by kernel_rfl) rfl (St.drew B9 o9) ?_
              simp only [List.filterMap_cons, List.filterMap_nil, List.getElem?_toArray, List.getElem?_cons_succ, List.getElem?_cons_zero]
              repeat (first
                | (refine held_val ?_ rfl (fun w1 hS => ?_) ?_
                   rotate_left
                   · (skip
                      go_simp
                      try go_bits
                      rfl)
                   simp only [Act.put, List.setIfInBounds_toArray, List.set_cons_zero, List.set_cons_succ])
                | (refine held_off rfl ?_
                   simp only [Act.put, List.setIfInBounds_toArray, List.set_cons_zero, List.set_cons_succ]))
              refine held_call 64 #[.int .u32 a0, .int .i64 2] (.int .u32 (turn2 a0)) rfl (fun w1 hS => by go_simp) (fun w1 hS => (turn2_any a0 w1).mono ?_) ?_
              · rintro e w2 ⟨rfl, rfl⟩
                exact ⟨rfl, hS⟩
              simp only [Act.put, List.setIfInBounds_toArray, List.set_cons_zero, List.set_cons_succ]
              repeat (first
                | (refine held_val ?_ rfl (fun w1 hS => ?_) ?_
                   rotate_left
                   · (skip
                      go_simp
                      try go_bits
                      rfl)
                   simp only [Act.put, List.setIfInBounds_toArray, List.set_cons_zero, List.set_cons_succ])
                | (refine held_off rfl ?_
                   simp only [Act.put, List.setIfInBounds_toArray, List.set_cons_zero, List.set_cons_succ]))
              refine held_call 64 #[.int .u32 a0, .int .i64 13] (.int .u32 (turn13 a0)) rfl (fun w1 hS => by go_simp) (fun w1 hS => (turn13_any a0 w1).mono ?_) ?_
              · rintro e w2 ⟨rfl, rfl⟩
                exact ⟨rfl, hS⟩
              simp only [Act.put, List.setIfInBounds_toArray, List.set_cons_zero, List.set_cons_succ]
              repeat (first
                | (refine held_val ?_ rfl (fun w1 hS => ?_) ?_
                   rotate_left
                   · (skip
                      go_simp
                      try go_bits
                      rfl)
                   simp only [Act.put, List.setIfInBounds_toArray, List.set_cons_zero, List.set_cons_succ])
                | (refine held_off rfl ?_
                   simp only [Act.put, List.setIfInBounds_toArray, List.set_cons_zero, List.set_cons_succ]))
              refine held_call 64 #[.int .u32 a0, .int .i64 22] (.int .u32 (turn22 a0)) rfl (fun w1 hS => by go_simp) (fun w1 hS => (turn22_any a0 w1).mono ?_) ?_
              · rintro e w2 ⟨rfl, rfl⟩
                exact ⟨rfl, hS⟩
              simp only [Act.put, List.setIfInBounds_toArray, List.set_cons_zero, List.set_cons_succ]
              repeat (first
                | (refine held_val ?_ rfl (fun w1 hS => ?_) ?_
                   rotate_left
                   · (have k1 := (G.out w1 hS.2.1).1; have k2 := (G.out w1 hS.2.1).2.1
                      go_simp
                      try go_bits
                      rfl)
                   simp only [Act.put, List.setIfInBounds_toArray, List.set_cons_zero, List.set_cons_succ])
                | (refine held_off rfl ?_
                   simp only [Act.put, List.setIfInBounds_toArray, List.set_cons_zero, List.set_cons_succ]))
              refine held_nil (fun wa hS => ?_)
              obtain ⟨Ba, oa, ba⟩ := hS
              have hba := hb9.trans ba
              have c0 : wa.cell? ⟨X4, 0, none⟩ = some (.int .u32 a0) := oa.cell 0
              have c1 : wa.cell? ⟨X4, 1, none⟩ = some (.int .u32 a1) := oa.cell 1
              have c2 : wa.cell? ⟨X4, 2, none⟩ = some (.int .u32 a2) := oa.cell 2
              have c3 : wa.cell? ⟨X4, 3, none⟩ = some (.int .u32 a3) := oa.cell 3
              have c4 : wa.cell? ⟨X4, 4, none⟩ = some (.int .u32 a4) := oa.cell 4
              have c5 : wa.cell? ⟨X4, 5, none⟩ = some (.int .u32 a5) := oa.cell 5
              have c6 : wa.cell? ⟨X4, 6, none⟩ = some (.int .u32 a6) := oa.cell 6
              have c7 : wa.cell? ⟨X4, 7, none⟩ = some (.int .u32 a7) := oa.cell 7
              have z0 := oa.unfrozen 0
              have z1 := oa.unfrozen 1
              have z2 := oa.unfrozen 2
              have z3 := oa.unfrozen 3
              have z4 := oa.unfrozen 4
              have z5 := oa.unfrozen 5
              have z6 := oa.unfrozen 6
              have z7 := oa.unfrozen 7
              have Fin := Lib.hid (fun y0 y1 y2 y3 y4 y5 y6 y7 => (And.intro (oa.set8 Ba y0 y1 y2 y3 y4 y5 y6 y7).1 (hba.trans (oa.set8 Ba y0 y1 y2 y3 y4 y5 y6 y7).2)))
              clear oa ba hba hb9 o9 B9 G
              go_wp2
              go_roundg j
              case measure => omega
              case rel => exact ⟨i + 1, _, _, _, _, _, _, _, _, by have := Hk.out; omega, rfl, Hrd, (Fin.out _ _ _ _ _ _ _ _).1, (Fin.out _ _ _ _ _ _ _ _).2⟩
            · obtain rfl : i = 64 := by omega
              have o3 : Own X0 (Bk X4 79 (u32A [a0, a1, a2, a3, a4, a5, a6, a7]) * (Bk X0 79 (u32A [s0, s1, s2, s3, s4, s5, s6, s7]) * (Bk X2 79 #[.int .u32 0, .int .u32 0, .int .u32 0, .int .u32 0, .int .u32 0, .int .u32 0, .int .u32 0, .int .u32 0] * Emp))) wr :=
                (ho.cast (show _ = Bk X3 96 (u32A ws) * (Bk X1 82 (u8A x) * (Bk X4 79 #[.int .u32 a0, .int .u32 a1, .int .u32 a2, .int .u32 a3, .int .u32 a4, .int .u32 a5, .int .u32 a6, .int .u32 a7] * (Bk X0 79 #[.int .u32 s0, .int .u32 s1, .int .u32 s2, .int .u32 s3, .int .u32 s4, .int .u32 s5, .int .u32 s6, .int .u32 s7] * (Bk X2 79 #[.int .u32 0, .int .u32 0, .int .u32 0, .int .u32 0, .int .u32 0, .int .u32 0, .int .u32 0, .int .u32 0] * Emp)))) by ac_rfl)).drop.drop
              obtain ⟨S, hS⟩ : ∃ S : List Int, S = [s0, s1, s2, s3, s4, s5, s6, s7] := ⟨_, rfl⟩
              rw [← hS] at o3
              have hSl : S.length = 8 := by rw [hS]; rfl
              have HS := Lib.hid hS
              clear ho hS
              go_wp2
              go_loopg [150] 8 (fun kk v150 wr => ∃ (i : Nat) (l : List Int), kk + i = 8 ∧ v150 = .int .i64 (i : Int) ∧ l.length = 8 ∧ Hid (l = addTo S (⟨a0, a1, a2, a3, a4, a5, a6, a7⟩ : S8).list i) ∧ Own X0 (Bk X4 79 (u32A l) * (Bk X0 79 (u32A S) * (Bk X2 79 #[.int .u32 0, .int .u32 0, .int .u32 0, .int .u32 0, .int .u32 0, .int .u32 0, .int .u32 0, .int .u32 0] * Emp))) wr ∧ Below X0 w wr)
              case atStart => exact ⟨0, _, rfl, rfl, rfl, Lib.hid rfl, o3, hb⟩
              case round =>
                clear o3 hb hk Bw
                obtain ⟨i, l, hk, rfl, hl, had, ho, hb⟩ := hrel
                have Bw : X0 ≤ wr.heap.size := by rw [← hX0]; exact hb.size
                have i0 : (0 : Int) ≤ (i : Int) := by omega
                by_cases hlt : (i : Int) < 8
                · obtain ⟨j, rfl⟩ : ∃ j, gk = j + 1 := ⟨gk - 1, by omega⟩
                  have hil : i < 8 := by omega
                  have Hk := Lib.hid (And.intro hk hl)
                  have HG := Lib.hid (fun W (h : Own X0 (Bk X4 79 (u32A l) * (Bk X0 79 (u32A S) * (Bk X2 79 #[.int .u32 0, .int .u32 0, .int .u32 0, .int .u32 0, .int .u32 0, .int .u32 0, .int .u32 0, .int .u32 0] * Emp))) W) => And.intro ((h.cell i).trans (u32A_getD l i (by omega))) ((h.cellOf X0 i).trans (u32A_getD S i (by omega))))
                  have Had : Hid (l.set i ((l.getD i 0 + S.getD i 0) % 4294967296) = addTo S (⟨a0, a1, a2, a3, a4, a5, a6, a7⟩ : S8).list (i + 1)) := Lib.hid (by rw [addTo, ← had.out])
                  clear hk hl had
                  generalize l.getD i 0 = li at *
                  generalize S.getD i 0 = si at *
                  go_wp2
                  refine wp_region_mix (St X0 _ wr) [0, 1, 2, 3, 4, 5, 6, 7] [8] mixed (by kernel_rfl) rfl (St.drew Bw ho) ?_
                  simp only [List.filterMap_cons, List.filterMap_nil, List.getElem?_toArray, List.getElem?_cons_succ, List.getElem?_cons_zero]
                  repeat (first
                    | (refine held_val ?_ rfl (fun w1 hS => ?_) ?_
                       rotate_left
                       · (have k1 := (HG.out w1 hS.2.1).1; have k2 := (HG.out w1 hS.2.1).2
                          go_simp
                          try go_bits
                          rfl)
                       simp only [Act.put, List.setIfInBounds_toArray, List.set_cons_zero, List.set_cons_succ])
                    | (refine held_off rfl ?_
                       simp only [Act.put, List.setIfInBounds_toArray, List.set_cons_zero, List.set_cons_succ]))
                  refine held_nil (fun w9 hS => ?_)
                  obtain ⟨B9, o9, b9⟩ := hS
                  have hb9 := hb.trans b9
                  have ci := (HG.out w9 o9).1
                  have zi := o9.unfrozen i
                  have Fin := Lib.hid (fun z => (And.intro ((u32A_set l i z) ▸ (o9.set B9 i (.int .u32 z))) (hb9.trans (o9.below_set i (.int .u32 z)))))
                  clear ho hb o9 b9 hb9 HG
                  go_wp2
                  go_roundg j
                  case measure => omega
                  case rel => exact ⟨i + 1, l.set i _, by have := Hk.out.1; omega, rfl, by rw [List.length_set]; exact Hk.out.2, Had, (Fin.out _).1, (Fin.out _).2⟩
                · obtain rfl : i = 8 := by omega
                  obtain ⟨t0, t1, t2, t3, t4, t5, t6, t7, rfl⟩ := list8 l hl
                  have Hfin : Hid ((u32A (blockF T ⟨s0, s1, s2, s3, s4, s5, s6, s7⟩ x)) = #[.int .u32 t0, .int .u32 t1, .int .u32 t2, .int .u32 t3, .int .u32 t4, .int .u32 t5, .int .u32 t6, .int .u32 t7]) := Lib.hid (by
                    unfold blockF
                    rw [← hrd.out]
                    have e : (⟨s0, s1, s2, s3, s4, s5, s6, s7⟩ : S8).list = S := HS.out.symm
                    rw [e, ← had.out]
                    rfl)
                  clear had
                  have ho : Own X0 (Bk X4 79 #[.int .u32 t0, .int .u32 t1, .int .u32 t2, .int .u32 t3, .int .u32 t4, .int .u32 t5, .int .u32 t6, .int .u32 t7] * (Bk X0 79 (u32A S) * (Bk X2 79 #[.int .u32 0, .int .u32 0, .int .u32 0, .int .u32 0, .int .u32 0, .int .u32 0, .int .u32 0, .int .u32 0] * Emp))) wr := ho
                  have c0 := ho.cell 0
                  have c1 := ho.cell 1
                  have c2 := ho.cell 2
                  have c3 := ho.cell 3
                  have c4 := ho.cell 4
                  have c5 := ho.cell 5
                  have c6 := ho.cell 6
                  have c7 := ho.cell 7
                  have d0 := ho.cellOf X2 0
                  have d1 := ho.cellOf X2 1
                  have d2 := ho.cellOf X2 2
                  have d3 := ho.cellOf X2 3
                  have d4 := ho.cellOf X2 4
                  have d5 := ho.cellOf X2 5
                  have d6 := ho.cellOf X2 6
                  have d7 := ho.cellOf X2 7
                  have z0 := ho.freeOf X2 0
                  have z1 := ho.freeOf X2 1
                  have z2 := ho.freeOf X2 2
                  have z3 := ho.freeOf X2 3
                  have z4 := ho.freeOf X2 4
                  have z5 := ho.freeOf X2 5
                  have z6 := ho.freeOf X2 6
                  have z7 := ho.freeOf X2 7
                  obtain ⟨p, pb⟩ := (ho.drop.drop).set8 Bw (.int .u32 t0) (.int .u32 t1) (.int .u32 t2) (.int .u32 t3) (.int .u32 t4) (.int .u32 t5) (.int .u32 t6) (.int .u32 t7)
                  go_wp2
                  refine bodyPost_ret (results_cell_row rfl _ _ X2 79 #[.int .u32 t0, .int .u32 t1, .int .u32 t2, .int .u32 t3, .int .u32 t4, .int .u32 t5, .int .u32 t6, .int .u32 t7] (0, 0) _ rfl p.bk.1 Tryd.underlying79 rfl (by kernel_rfl)) rfl ?_
                  exact ⟨by rw [Hfin.out], hb.trans pb⟩
theorem block_any (s0 s1 s2 s3 s4 s5 s6 s7 : Int) (x : List Int) (hx : x.length = 64) (hxb : byteL x) (T : List Int) (hT : T.length = 64) (w : World) (hTw : w.heap[0]? = some (.cells (u32A T) 96)) :
    Calls Tryd.prog 43 #[.agg #[.int .u32 s0, .int .u32 s1, .int .u32 s2, .int .u32 s3, .int .u32 s4, .int .u32 s5, .int .u32 s6, .int .u32 s7], .agg (u8A x)] w
      fun e w' => (∃ t0 t1 t2 t3 t4 t5 t6 t7, e = .returned (.agg #[.int .u32 t0, .int .u32 t1, .int .u32 t2, .int .u32 t3, .int .u32 t4, .int .u32 t5, .int .u32 t6, .int .u32 t7])) ∧ Below w.heap.size w w' := by
  refine (block_ex s0 s1 s2 s3 s4 s5 s6 s7 x hx hxb T hT w hTw).mono ?_
  rintro e w' ⟨rfl, b⟩
  obtain ⟨t0, t1, t2, t3, t4, t5, t6, t7, h⟩ := list8 _ (blockF_length T ⟨s0, s1, s2, s3, s4, s5, s6, s7⟩ x)
  exact ⟨⟨t0, t1, t2, t3, t4, t5, t6, t7, by rw [h]; rfl⟩, b⟩
end Go.Proofs.YtmppagiaonbggaaDoor

/- The walks over Start and Pad of package digest: what they give. -/
namespace Go.Proofs.YtmppagiaonbggaaDoor
set_option linter.unusedVariables false
set_option linter.unusedSimpArgs false
set_option maxRecDepth 100000
open Go.RowKit

theorem start_any (w : World) : Calls Tryd.prog 42 #[] w fun e w' => e = .returned (.agg #[.int .u32 1779033703, .int .u32 3144134277, .int .u32 1013904242, .int .u32 2773480762, .int .u32 1359893119, .int .u32 2600822924, .int .u32 528734635, .int .u32 1541459225]) ∧ Below w.heap.size w w' := by
  have o1 := (Own.start w.heap.size w).new (Nat.le_refl _) 79 #[.int .u32 0, .int .u32 0, .int .u32 0, .int .u32 0, .int .u32 0, .int .u32 0, .int .u32 0, .int .u32 0]
  have b1 := (Below.refl w.heap.size w).alloc (Nat.le_refl _) (.cells #[.int .u32 0, .int .u32 0, .int .u32 0, .int .u32 0, .int .u32 0, .int .u32 0, .int .u32 0, .int .u32 0] 79)
  obtain ⟨p, pb⟩ := o1.set8 b1.size (.int .u32 1779033703) (.int .u32 3144134277) (.int .u32 1013904242) (.int .u32 2773480762) (.int .u32 1359893119) (.int .u32 2600822924) (.int .u32 528734635) (.int .u32 1541459225)
  have o2 := (Own.start w.heap.size w).new (Nat.le_refl _) 79 #[.int .u32 1779033703, .int .u32 3144134277, .int .u32 1013904242, .int .u32 2773480762, .int .u32 1359893119, .int .u32 2600822924, .int .u32 528734635, .int .u32 1541459225]
  have b2 := (Below.refl w.heap.size w).alloc (Nat.le_refl _) (.cells #[.int .u32 1779033703, .int .u32 3144134277, .int .u32 1013904242, .int .u32 2773480762, .int .u32 1359893119, .int .u32 2600822924, .int .u32 528734635, .int .u32 1541459225] 79)
  go_enter Tryd.func42, Tryd.ntmps42
  go_wp2
  first
    | (refine bodyPost_ret (results_cell_row rfl _ _ w.heap.size 79 #[.int .u32 1779033703, .int .u32 3144134277, .int .u32 1013904242, .int .u32 2773480762, .int .u32 1359893119, .int .u32 2600822924, .int .u32 528734635, .int .u32 1541459225] (0, 0) _ rfl o2.bk.1 Tryd.underlying79 rfl (by kernel_rfl)) rfl ?_
       exact ⟨rfl, b2⟩)
    | (refine bodyPost_ret (results_cell_row rfl _ _ w.heap.size 79 #[.int .u32 1779033703, .int .u32 3144134277, .int .u32 1013904242, .int .u32 2773480762, .int .u32 1359893119, .int .u32 2600822924, .int .u32 528734635, .int .u32 1541459225] (0, 0) _ rfl p.bk.1 Tryd.underlying79 rfl (by kernel_rfl)) rfl ?_
       exact ⟨rfl, b1.trans pb⟩)

/-- A byte of the length in bits; those from the greatest down; what stands behind n bytes. -/
def lenB (n j : Nat) : UInt8 := UInt8.ofNat (n * 8 / 2 ^ (8 * j) % 256)
def lensC (n : Nat) : Nat → List UInt8
  | 0 => []
  | c + 1 => lensC n c ++ [lenB n (7 - c)]
def padK (n : Nat) : Nat := (64 - (n + 9) % 64) % 64
def padF (n : Nat) : List UInt8 := 128 :: (List.replicate (padK n) 0 ++ lensC n 8)
set_option maxHeartbeats 1600000 in
theorem pad_ex (n : Nat) (hn : n ≤ 1099511627776) (w : World) : Calls Tryd.prog 41 #[.int .i64 (n : Int)] w (RetB w (padF n)) := by
  have o1 : Own w.heap.size (Rw 5 1 (.slice (some ⟨w.heap.size, 0, none⟩) 1 1) [(128 : UInt8)].length (bytesU [(128 : UInt8)]) * Emp) (w.alloc (.cells #[.int .u8 128] 5)) :=
    ((Own.start w.heap.size w).new (Nat.le_refl _) 5 #[.int .u8 128]).rw_of_bk (size := 1) (n := 1) rfl (by unfold maxLen; decide)
  have b1 := (Below.refl w.heap.size w).alloc (Nat.le_refl _) (.cells #[.int .u8 128] 5)
  obtain ⟨N, hN⟩ : ∃ N : Int, (n : Int) = N := ⟨_, rfl⟩
  have N0 : 0 ≤ N := by omega
  have N1 : N ≤ 1099511627776 := by omega
  obtain ⟨k0, hk0, hk1, hkK⟩ : ∃ k0, (n + 1 + 8 + k0) % 64 = 0 ∧ k0 < 64 ∧ k0 = padK n := ⟨(64 - (n + 9) % 64) % 64, by omega, by omega, rfl⟩
  have HkK := Lib.hid hkK
  clear hkK
  rw [hN]
  have HN := Lib.hid hN
  clear hN hn
  go_enter Tryd.func41, Tryd.ntmps41
  go_wp2
  go_loopg [3] k0 (fun kk v3 wr => ∃ (out : List UInt8) (A : Option Addr) (c : Nat), v3 = .slice A out.length c ∧ Hid ((n + out.length + 8 + kk) % 64 = 0 ∧ kk + out.length = k0 + 1 ∧ 1 ≤ out.length ∧ out = 128 :: List.replicate (out.length - 1) 0) ∧ Own w.heap.size (Rw 5 1 (.slice A out.length c) out.length (bytesU out) * Emp) wr ∧ Below w.heap.size w wr)
  case atStart => exact ⟨[128], _, 1, rfl, Lib.hid ⟨hk0, rfl, Nat.le_refl _, rfl⟩, o1, b1⟩
  case round =>
    clear o1 b1
    obtain ⟨out, A, c, rfl, he, ho, hb⟩ := hrel
    obtain ⟨h1, h2, h3, h4⟩ := he.out
    have H4 := Lib.hid h4
    clear h4
    have hn' := HN.out
    obtain ⟨m, hm⟩ : ∃ m : Int, (N + (out.length : Int) + 8) % 64 = m := ⟨_, rfl⟩
    by_cases h0 : gk = 0
    · subst h0
      have hm0 : m = 0 := by omega
      subst hm0
      have hr : (N + (out.length : Int) + 8).tmod 64 = 0 := by rw [Int.tmod_eq_emod_of_nonneg (by omega)]; exact hm
      have hL : (out.length : Int) ≤ 64 := by omega
      have Ho := Lib.hid (And.intro h1 (And.intro h2 h3))
      clear h1 h2 h3 he hn'
      go_wp2
      go_loopg [3, 4] 8 (fun kk v3 v4 wr => ∃ (o2 : List UInt8) (A : Option Addr) (c : Nat), kk ≤ 8 ∧ v3 = .slice A o2.length c ∧ v4 = .int .i64 ((kk : Int) - 1) ∧ Hid (o2.length + kk = out.length + 8 ∧ o2 = out ++ lensC n (8 - kk)) ∧ Own w.heap.size (Rw 5 1 (.slice A o2.length c) o2.length (bytesU o2) * Emp) wr ∧ Below w.heap.size w wr)
      case atStart => exact ⟨out, A, c, Nat.le_refl _, rfl, rfl, Lib.hid ⟨rfl, by simp [lensC]⟩, ho, hb⟩
      case round =>
        clear ho hb
        obtain ⟨o2, A, c, hk8, rfl, rfl, he2, ho, hb⟩ := hrel
        by_cases hg0 : gk = 0
        · subst hg0
          obtain ⟨hl2, hl3⟩ := he2.out
          obtain ⟨g1, g2, g3⟩ := Ho.out
          have Fin : Hid (o2 = padF n) := Lib.hid (by
            rw [hl3, H4.out]
            unfold padF
            rw [show out.length - 1 = padK n by rw [← HkK.out]; omega]
            simp)
          clear hl2 hl3 g1 g2 g3 he2
          have O := Lib.hid ho
          clear ho
          go_wp2
          go_ret
          exact RetB.mk rfl rfl Fin.out rfl O.out hb
        · obtain ⟨j, rfl⟩ : ∃ j, gk = j + 1 := ⟨gk - 1, by omega⟩
          have hj : ((j + 1 : Nat) : Int) - 1 = (j : Int) := by omega
          have hj8 : j < 8 := by omega
          rw [hj]
          have hsm := fun (u : UInt8) (z : Int) (hz : z = (u.toNat : Int)) => byte_snoc hb.size ho u z hz (by have := he2.out.1; omega)
          have Hoj := Lib.hid (fun (u : UInt8) (hu : u = lenB n j) => show (o2 ++ [u]).length + j = out.length + 8 ∧ o2 ++ [u] = out ++ lensC n (8 - j) from ⟨by have := he2.out.1; rw [List.length_append]; simp only [List.length_singleton]; omega, by
            rw [he2.out.2, hu, show 8 - j = (8 - (j + 1)) + 1 by omega, lensC, show 7 - (8 - (j + 1)) = j by omega, List.append_assoc]⟩)
          have N8 : N * 8 < 18446744073709551616 := by omega
          clear he2
          match j, hj8 with
          | 0, _ =>
            have hu : ((N * 8 % 256 : Int)) = ((UInt8.ofNat (N * 8 % 256).toNat).toNat : Int) := by simp; omega
            obtain ⟨g, cap, w2, hrun, o3, b3⟩ := hsm (UInt8.ofNat (N * 8 % 256).toNat) (N * 8 % 256) hu
            have Hrun := Lib.hid hrun
            have hb3 := hb.trans b3
            have Hl := Lib.hid (Hoj.out (UInt8.ofNat (N * 8 % 256).toNat) (by have := HN.out; show _ = UInt8.ofNat (n * 8 / 1 % 256); congr 1; omega))
            clear hsm Hoj hrun ho hb b3 hu
            generalize o2 ++ [UInt8.ofNat (N * 8 % 256).toNat] = o4 at *
            go_wp2_with (at_builtin; refine wpList_append_run rfl (.tmp 22) (.tmp 30) 32 rfl rfl rfl Hrun.out ?_)
            go_roundg 0
            case measure => omega
            case rel => exact ⟨o4, _, _, by omega, rfl, by rfl, Lib.hid Hl.out, o3, hb3⟩
          | 1, _ =>
            have hu : ((N * 8 / 256 % 256 : Int)) = ((UInt8.ofNat (N * 8 / 256 % 256).toNat).toNat : Int) := by simp; omega
            obtain ⟨g, cap, w2, hrun, o3, b3⟩ := hsm (UInt8.ofNat (N * 8 / 256 % 256).toNat) (N * 8 / 256 % 256) hu
            have Hrun := Lib.hid hrun
            have hb3 := hb.trans b3
            have Hl := Lib.hid (Hoj.out (UInt8.ofNat (N * 8 / 256 % 256).toNat) (by have := HN.out; show _ = UInt8.ofNat (n * 8 / 256 % 256); congr 1; omega))
            clear hsm Hoj hrun ho hb b3 hu
            generalize o2 ++ [UInt8.ofNat (N * 8 / 256 % 256).toNat] = o4 at *
            go_wp2_with (at_builtin; refine wpList_append_run rfl (.tmp 22) (.tmp 30) 32 rfl rfl rfl Hrun.out ?_)
            go_roundg 1
            case measure => omega
            case rel => exact ⟨o4, _, _, by omega, rfl, by rfl, Lib.hid Hl.out, o3, hb3⟩
          | 2, _ =>
            have hu : ((N * 8 / 65536 % 256 : Int)) = ((UInt8.ofNat (N * 8 / 65536 % 256).toNat).toNat : Int) := by simp; omega
            obtain ⟨g, cap, w2, hrun, o3, b3⟩ := hsm (UInt8.ofNat (N * 8 / 65536 % 256).toNat) (N * 8 / 65536 % 256) hu
            have Hrun := Lib.hid hrun
            have hb3 := hb.trans b3
            have Hl := Lib.hid (Hoj.out (UInt8.ofNat (N * 8 / 65536 % 256).toNat) (by have := HN.out; show _ = UInt8.ofNat (n * 8 / 65536 % 256); congr 1; omega))
            clear hsm Hoj hrun ho hb b3 hu
            generalize o2 ++ [UInt8.ofNat (N * 8 / 65536 % 256).toNat] = o4 at *
            go_wp2_with (at_builtin; refine wpList_append_run rfl (.tmp 22) (.tmp 30) 32 rfl rfl rfl Hrun.out ?_)
            go_roundg 2
            case measure => omega
            case rel => exact ⟨o4, _, _, by omega, rfl, by rfl, Lib.hid Hl.out, o3, hb3⟩
          | 3, _ =>
            have hu : ((N * 8 / 16777216 % 256 : Int)) = ((UInt8.ofNat (N * 8 / 16777216 % 256).toNat).toNat : Int) := by simp; omega
            obtain ⟨g, cap, w2, hrun, o3, b3⟩ := hsm (UInt8.ofNat (N * 8 / 16777216 % 256).toNat) (N * 8 / 16777216 % 256) hu
            have Hrun := Lib.hid hrun
            have hb3 := hb.trans b3
            have Hl := Lib.hid (Hoj.out (UInt8.ofNat (N * 8 / 16777216 % 256).toNat) (by have := HN.out; show _ = UInt8.ofNat (n * 8 / 16777216 % 256); congr 1; omega))
            clear hsm Hoj hrun ho hb b3 hu
            generalize o2 ++ [UInt8.ofNat (N * 8 / 16777216 % 256).toNat] = o4 at *
            go_wp2_with (at_builtin; refine wpList_append_run rfl (.tmp 22) (.tmp 30) 32 rfl rfl rfl Hrun.out ?_)
            go_roundg 3
            case measure => omega
            case rel => exact ⟨o4, _, _, by omega, rfl, by rfl, Lib.hid Hl.out, o3, hb3⟩
          | 4, _ =>
            have hu : ((N * 8 / 4294967296 % 256 : Int)) = ((UInt8.ofNat (N * 8 / 4294967296 % 256).toNat).toNat : Int) := by simp; omega
            obtain ⟨g, cap, w2, hrun, o3, b3⟩ := hsm (UInt8.ofNat (N * 8 / 4294967296 % 256).toNat) (N * 8 / 4294967296 % 256) hu
            have Hrun := Lib.hid hrun
            have hb3 := hb.trans b3
            have Hl := Lib.hid (Hoj.out (UInt8.ofNat (N * 8 / 4294967296 % 256).toNat) (by have := HN.out; show _ = UInt8.ofNat (n * 8 / 4294967296 % 256); congr 1; omega))
            clear hsm Hoj hrun ho hb b3 hu
            generalize o2 ++ [UInt8.ofNat (N * 8 / 4294967296 % 256).toNat] = o4 at *
            go_wp2_with (at_builtin; refine wpList_append_run rfl (.tmp 22) (.tmp 30) 32 rfl rfl rfl Hrun.out ?_)
            go_roundg 4
            case measure => omega
            case rel => exact ⟨o4, _, _, by omega, rfl, by rfl, Lib.hid Hl.out, o3, hb3⟩
          | 5, _ =>
            have hu : ((N * 8 / 1099511627776 : Int)) = ((UInt8.ofNat (N * 8 / 1099511627776).toNat).toNat : Int) := by simp; omega
            obtain ⟨g, cap, w2, hrun, o3, b3⟩ := hsm (UInt8.ofNat (N * 8 / 1099511627776).toNat) (N * 8 / 1099511627776) hu
            have Hrun := Lib.hid hrun
            have hb3 := hb.trans b3
            have Hl := Lib.hid (Hoj.out (UInt8.ofNat (N * 8 / 1099511627776).toNat) (by have := HN.out; show _ = UInt8.ofNat (n * 8 / 1099511627776 % 256); congr 1; omega))
            clear hsm Hoj hrun ho hb b3 hu
            generalize o2 ++ [UInt8.ofNat (N * 8 / 1099511627776).toNat] = o4 at *
            go_wp2_with (at_builtin; refine wpList_append_run rfl (.tmp 22) (.tmp 30) 32 rfl rfl rfl Hrun.out ?_)
            go_roundg 5
            case measure => omega
            case rel => exact ⟨o4, _, _, by omega, rfl, by rfl, Lib.hid Hl.out, o3, hb3⟩
          | 6, _ =>
            have hu : ((N * 8 / 281474976710656 : Int)) = ((UInt8.ofNat (N * 8 / 281474976710656).toNat).toNat : Int) := by simp; omega
            obtain ⟨g, cap, w2, hrun, o3, b3⟩ := hsm (UInt8.ofNat (N * 8 / 281474976710656).toNat) (N * 8 / 281474976710656) hu
            have Hrun := Lib.hid hrun
            have hb3 := hb.trans b3
            have Hl := Lib.hid (Hoj.out (UInt8.ofNat (N * 8 / 281474976710656).toNat) (by have := HN.out; show _ = UInt8.ofNat (n * 8 / 281474976710656 % 256); congr 1; omega))
            clear hsm Hoj hrun ho hb b3 hu
            generalize o2 ++ [UInt8.ofNat (N * 8 / 281474976710656).toNat] = o4 at *
            go_wp2_with (at_builtin; refine wpList_append_run rfl (.tmp 22) (.tmp 30) 32 rfl rfl rfl Hrun.out ?_)
            go_roundg 6
            case measure => omega
            case rel => exact ⟨o4, _, _, by omega, rfl, by rfl, Lib.hid Hl.out, o3, hb3⟩
          | 7, _ =>
            have hu : ((N * 8 / 72057594037927936 : Int)) = ((UInt8.ofNat (N * 8 / 72057594037927936).toNat).toNat : Int) := by simp; omega
            obtain ⟨g, cap, w2, hrun, o3, b3⟩ := hsm (UInt8.ofNat (N * 8 / 72057594037927936).toNat) (N * 8 / 72057594037927936) hu
            have Hrun := Lib.hid hrun
            have hb3 := hb.trans b3
            have Hl := Lib.hid (Hoj.out (UInt8.ofNat (N * 8 / 72057594037927936).toNat) (by have := HN.out; show _ = UInt8.ofNat (n * 8 / 72057594037927936 % 256); congr 1; omega))
            clear hsm Hoj hrun ho hb b3 hu
            generalize o2 ++ [UInt8.ofNat (N * 8 / 72057594037927936).toNat] = o4 at *
            go_wp2_with (at_builtin; refine wpList_append_run rfl (.tmp 22) (.tmp 30) 32 rfl rfl rfl Hrun.out ?_)
            go_roundg 7
            case measure => omega
            case rel => exact ⟨o4, _, _, by omega, rfl, by rfl, Lib.hid Hl.out, o3, hb3⟩
    · obtain ⟨j, rfl⟩ : ∃ j, gk = j + 1 := ⟨gk - 1, by omega⟩
      have hm1 : (m == 0) = false := by rw [beq_eq_false_iff_ne]; omega
      have hm2 : (m != 0) = true := by simpa using hm1
      have hL : (out.length : Int) ≤ 64 := by omega
      have hr : (N + (out.length : Int) + 8).tmod 64 = m := by rw [Int.tmod_eq_emod_of_nonneg (by omega)]; exact hm
      obtain ⟨g, cap, w2, hrun, o2, b2⟩ := byte_snoc hb.size ho (0 : UInt8) 0 rfl (by omega)
      have Hrun := Lib.hid hrun
      have hb2 := hb.trans b2
      have Hl : Hid ((n + (out ++ [(0 : UInt8)]).length + 8 + j) % 64 = 0 ∧ j + (out ++ [(0 : UInt8)]).length = k0 + 1 ∧ 1 ≤ (out ++ [(0 : UInt8)]).length ∧ out ++ [(0 : UInt8)] = 128 :: List.replicate ((out ++ [(0 : UInt8)]).length - 1) 0) := Lib.hid (by
        refine ⟨by rw [List.length_append]; simp only [List.length_singleton]; omega, by rw [List.length_append]; simp only [List.length_singleton]; omega, by rw [List.length_append]; simp only [List.length_singleton]; omega, ?_⟩
        rw [show (out ++ [(0 : UInt8)]).length - 1 = (out.length - 1) + 1 by rw [List.length_append]; simp only [List.length_singleton]; omega, List.replicate_succ']
        conv => lhs; rw [H4.out]
        rfl)
      clear hrun b2 h1 h2 h3 hn' he ho hb
      generalize out ++ [(0 : UInt8)] = out2 at *
      go_wp2_with (at_builtin; refine wpList_append_run rfl (.tmp 15) (.tmp 16) 32 rfl rfl rfl Hrun.out ?_)
      go_roundg j
      case measure => omega
      case rel => exact ⟨out2, _, _, rfl, Hl, o2, hb2⟩
end Go.Proofs.YtmppagiaonbggaaDoor

/- A byte at a place of bytes that one can read. -/
namespace Go.Proofs.YtmppagiaonbggaaDoor
set_option linter.unusedVariables false
set_option linter.unusedSimpArgs false
set_option maxRecDepth 100000
open Go.RowKit

theorem Rd.at {w : World} {A : Option Addr} {n c : Nat} {l : List UInt8} (h : Rd w (.slice A n c) (bytesU l)) (i : Nat) (hi : i < l.length) : ∃ ad, A = some ad ∧ w.cell? (ad.add i) = some (.int .u8 (l[i].toNat : Int)) := by
  obtain ⟨A', c', hv, hrd⟩ := h
  injection hv with e1 e2 e3
  subst e1
  obtain ⟨ad, rfl, hc⟩ := hrd (by intro e; rw [← List.length_eq_zero_iff, bytesU_length] at e; omega)
  exact ⟨ad, rfl, hc i _ (by simp [bytesU, hi])⟩
theorem Rd.at' {w : World} {A : Option Addr} {n c : Nat} {l : List UInt8} (h : Rd w (.slice A n c) (bytesU l)) (i : Nat) (hi : i < l.length) : ∃ b0 o0, A = some ⟨b0, o0, none⟩ ∧ w.cell? ⟨b0, o0 + i, none⟩ = some (.int .u8 (l[i].toNat : Int)) := by
  obtain ⟨⟨b0, o0, sp⟩, h1, hc⟩ := h.at i hi
  obtain ⟨ad', h2, hc'⟩ := h.at 0 (by omega)
  rw [h1] at h2
  cases h2
  have hs := World.cell?_spot hc'
  have hsp : sp = none := by simpa [Addr.add] using hs
  subst hsp
  rw [Addr.add_lit] at hc
  exact ⟨b0, o0, h1, hc⟩
end Go.Proofs.YtmppagiaonbggaaDoor
