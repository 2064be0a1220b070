/- Package entry: the walks over paths, and over what is amiss with entries. -/
import Derived.Test.YtfppancidgamjaaDoorE3
namespace Go.Proofs.YtfppancidgamjaaDoor
set_option linter.unusedVariables false
set_option linter.unusedSimpArgs false
open Go.RowKit

def strL (x : List UInt8) : List Value := [.string (str x)]
theorem strL_len (x : List UInt8) : (strL x).length = 1 := rfl
theorem rds_of_rdA {w : World} {A : Option Addr} {l : List (List UInt8)} (h : RdA 1 strL w A l) : RdS w A l := fun i hi => by
  obtain ⟨b, off, ha, _, hc⟩ := h i hi
  refine ⟨b, off, ha, ?_⟩
  have := hc 0 _ rfl
  rwa [Nat.mul_one, Nat.add_zero] at this
theorem flat_strL (l : List (List UInt8)) : flat strL l = strsV l := by
  induction l with
  | nil => rfl
  | cons a l ih => show strL a ++ flat strL l = _; rw [ih]; rfl
theorem RdA.cells7 {w : World} {b off : Nat} {i : Nat} {e : En} (d : ∀ j u, (enL e)[j]? = some u → w.cell? ⟨b, off + i * 7 + j, none⟩ = some u) :
    w.cell? ⟨b, off + i * 7, none⟩ = some (.string (str e.path)) ∧ w.cell? ⟨b, off + i * 7 + 1, none⟩ = some (.int .i64 e.kind) ∧ w.cell? ⟨b, off + i * 7 + 2, none⟩ = some (.int .i64 e.mode) ∧ w.cell? ⟨b, off + i * 7 + 3, none⟩ = some (.int .i64 e.time) ∧
    w.cell? ⟨b, off + i * 7 + 4, none⟩ = some (.string (str e.tgt)) ∧ w.cell? ⟨b, off + i * 7 + 5, none⟩ = some (.int .i64 e.beg) ∧ w.cell? ⟨b, off + i * 7 + 6, none⟩ = some (.int .i64 e.size) :=
  ⟨d 0 _ rfl, d 1 _ rfl, d 2 _ rfl, d 3 _ rfl, d 4 _ rfl, d 5 _ rfl, d 6 _ rfl⟩

set_option maxRecDepth 100000 in
set_option maxHeartbeats 3200000 in
theorem paths_any (A : Option Addr) (c : Nat) (l : List En) (hl : l.length ≤ 4294967296) (w : World) (hr : RdA 7 enL w A l) :
    Calls Tryd.prog 47 #[.slice A l.length c] w (RetA 1 strL w (l.map (·.path))) := by
  obtain ⟨i0, hi, hz0, hz1, hz2⟩ := info_parts infoStr
  have Hi0 := Lib.hid (And.intro hi (And.intro hz0 (And.intro hz1 hz2)))
  have hO := (Own.start w.heap.size w).rw_nil 9 1
  have hb := Below.refl w.heap.size w
  have Hr := Lib.hid (fun w1 (b : Below w.heap.size w w1) => hr.below b)
  have n1 : (l.length : Int) ≤ 4294967296 := by omega
  clear hr hi hz0 hz1 hz2
  go_enter Tryd.func47, Tryd.ntmps47
  go_wp2
  go_loopg [3, 8] l.length (fun k v u wr => ∃ (i : Nat) (A' : Option Addr) (c' : Nat), k + i = l.length ∧ u = .int .i64 i ∧ v = .slice A' i c' ∧ Below w.heap.size w wr ∧ Own w.heap.size (Rw 9 1 (.slice A' i c') i (flat strL ((l.take i).map (·.path))) * Emp) wr)
  case atStart => exact ⟨0, none, 0, by omega, rfl, rfl, hb, hO⟩
  case round =>
    clear hb hO
    obtain ⟨i, A', c', hk, rfl, rfl, hb, ho⟩ := hrel
    by_cases hlt : (i : Int) < (l.length : Int)
    · obtain ⟨j, rfl⟩ : ∃ j, gk = j + 1 := ⟨gk - 1, by omega⟩
      have hil : i < l.length := by omega
      have i0' : (0 : Int) ≤ (i : Int) := by omega
      obtain ⟨b, off, rfl, q, d⟩ := Hr.out _ hb i hil
      have Hk := Lib.hid hk
      have Hsn : Hid ((l.take (i + 1)).map (·.path) = (l.take i).map (·.path) ++ [l[i].path]) := Lib.hid (by rw [List.take_succ_eq_append_getElem hil, List.map_append]; rfl)
      clear hk
      generalize (l.take i).map (·.path) = E at *
      generalize l[i] = x at *
      obtain ⟨path, kind, mode, time, tgt, beg, size⟩ := x
      obtain ⟨d0, d1, d2, d3, d4, d5, d6⟩ := RdA.cells7 d
      simp only at d0 d1 d2 d3 d4 d5 d6 Hsn
      clear d
      have o1 := ho.alloc_keep hb.size (.cells #[.string (str path), .int .i64 kind, .int .i64 mode, .int .i64 time, .string (str tgt), .int .i64 beg, .int .i64 size] 30)
      have hb1 := hb.alloc hb.size (.cells #[.string (str path), .int .i64 kind, .int .i64 mode, .int .i64 time, .string (str tgt), .int .i64 beg, .int .i64 size] 30)
      obtain ⟨g2, cap2, w2, hrun, o2, b2⟩ := row_append (P := Tryd.prog) hb1.size Tryd.underlying78 Hi0.out.1 Hi0.out.2.1 Hi0.out.2.2.1 Hi0.out.2.2.2 rfl (by omega) o1 #[.string (str path)] rfl
        (by intro u hu; simp at hu; rcases hu with rfl; rfl) (by omega) (by omega)
      rw [World.size_alloc] at hrun
      have Hrun := Lib.hid hrun
      have hb2 := hb1.trans b2
      clear hrun o1 hb1 hb ho b2
      go_wp2_with (at_builtin; refine wpList_append_at rfl (.tmp 12) (.tmp 15) 78 rfl rfl rfl Hrun.out ?_)
      go_roundg j
      case measure => omega
      case rel => exact ⟨i + 1, some ⟨g2, 0, none⟩, cap2, by have := Hk.out; omega, rfl, rfl, hb2, by rw [Hsn.out, flat_snoc]; exact o2⟩
    · obtain rfl : i = l.length := by omega
      rw [List.take_length] at ho
      go_wp2
      go_ret
      exact RetA.mk rfl (by simp) ho.cap (ho.rdA strL_len (by simp)) hb

theorem allB_list {α : Type} [Inhabited α] (q : α → Bool) (l : List α) (d : α) : allB (fun i => q (l.getD i d)) l.length = l.all q := by
  rw [Bool.eq_iff_iff, allB_true, List.all_eq_true]
  constructor
  · intro h x hx
    obtain ⟨i, hi, rfl⟩ := List.mem_iff_getElem.1 hx
    have := h i hi
    simpa [hi] using this
  · intro h i hi
    have := h l[i] (List.getElem_mem hi)
    simpa [hi] using this

set_option maxHeartbeats 1600000 in
theorem allstr_any (A : Option Addr) (c : Nat) (l : List (List UInt8)) (hl : l.length ≤ 9223372036854775807) (hx : ∀ x ∈ l, x.length ≤ 9223372036854775807) (w : World) (h : Sh w) (hr : RdS w A l) :
    Calls Tryd.prog 46 #[.slice A l.length c, .func (.func 48) #[] #[]] w fun e w' => e = .returned (.bool (l.all okPath)) ∧ Below w.heap.size w w' := by
  have hb := Below.refl w.heap.size w
  have Hh := Lib.hid (fun w1 (b : Below w.heap.size w w1) => sh_below h b)
  have Hr := Lib.hid (fun w1 (b : Below w.heap.size w w1) => hr.below b)
  have Hx := Lib.hid hx
  have n1 : (l.length : Int) ≤ 9223372036854775807 := by omega
  clear h hr hx
  go_enter Tryd.func46, Tryd.ntmps46
  go_wp2
  go_loopg [9] l.length (fun k v wr => ∃ i : Nat, k + i = l.length ∧ v = .int .i64 i ∧ Below w.heap.size w wr ∧ Hid (∀ j, j < i → okPath (l.getD j []) = true))
  case atStart => exact ⟨0, by omega, rfl, hb, Lib.hid (fun j h => absurd h (Nat.not_lt_zero _))⟩
  case round =>
    clear hb
    obtain ⟨i, hk, rfl, hb, hp⟩ := hrel
    by_cases hlt : (i : Int) < (l.length : Int)
    · obtain ⟨j, rfl⟩ : ∃ j, gk = j + 1 := ⟨gk - 1, by omega⟩
      have hil : i < l.length := by omega
      have i0 : (0 : Int) ≤ (i : Int) := by omega
      obtain ⟨b, off, rfl, q, d⟩ := (Hr.out _ hb).at_ i hil
      have Hk := Lib.hid hk
      have hg : l.getD i [] = l[i] := by simp [hil]
      have R := Lib.hid (fun w1 h1 => right_any (str l[i]) (by have := Hx.out _ (List.getElem_mem hil); exact this) w1 h1)
      rw [data_str, ← hg] at R
      have hp2 : Hid (okPath (l.getD i []) = true → ∀ j, j < i + 1 → okPath (l.getD j []) = true) := Lib.hid (fun h j hj => by
        by_cases e : j = i
        · subst e; exact h
        · exact hp.out j (by omega))
      have hbad : Hid (okPath (l.getD i []) = false → l.all okPath = false) := Lib.hid (fun h => by rw [← allB_list okPath l []]; exact allB_false hil h)
      clear hk hp
      generalize okPath (l.getD i []) = y at *
      rw [hg] at *
      generalize l[i] = x at *
      clear hg
      go_wp2_with fail
      refine (R.out _ (Hh.out _ hb)).mono ?_
      rintro e wz ⟨rfl, b⟩
      replace hb := hb.trans (b.mono hb.size)
      clear b
      cases y with
      | true =>
        go_wp2
        go_roundg j
        case measure => omega
        case rel => exact ⟨i + 1, by have := Hk.out; omega, rfl, hb, Lib.hid (hp2.out (by trivial))⟩
      | false =>
        go_wp2
        go_ret
        exact ⟨by rw [hbad.out (by trivial)]; rfl, hb⟩
    · have hall : Hid (l.all okPath = true) := Lib.hid (by rw [← allB_list okPath l []]; exact allB_true.2 (fun j hj => hp.out j (by omega)))
      go_wp2
      go_ret
      exact ⟨by rw [hall.out]; rfl, hb⟩
/-! what is amiss -/
def pairB : List (List UInt8) → Bool
  | [] => true
  | x :: l => (match l with | [] => true | y :: _ => decide (cmpL (psplit x) (psplit y) < 0)) && pairB l
theorem pairB_index : ∀ l : List (List UInt8), pairB l = true ↔ ∀ i (h : i + 1 < l.length), cmpL (psplit (l[i]'(by omega))) (psplit l[i + 1]) < 0
  | [] => by simp [pairB]
  | [x] => by simp [pairB]
  | x :: y :: l => by
    have ih := pairB_index (y :: l)
    unfold pairB
    rw [Bool.and_eq_true, ih, decide_eq_true_eq]
    constructor
    · rintro ⟨h1, h2⟩ i hi
      cases i with
      | zero => exact h1
      | succ i => exact h2 i (by simpa using hi)
    · intro h
      exact ⟨h 0 (by simp), fun i hi => h (i + 1) (by simpa using hi)⟩
def sortedB (l : List (List UInt8)) : Bool := l.all okPath && pairB l
theorem sortedB_iff (l : List (List UInt8)) : sortedB l = true ↔ SortedP l := by
  unfold sortedB SortedP
  rw [Bool.and_eq_true, List.all_eq_true, pairB_index]
  constructor
  · rintro ⟨h1, h2⟩ i hi
    refine ⟨h1 _ (List.getElem_mem hi), fun h0 => ?_⟩
    obtain ⟨j, rfl⟩ : ∃ j, i = j + 1 := ⟨i - 1, by omega⟩
    exact h2 j hi
  · intro h
    refine ⟨fun x hx => ?_, fun i hi => (h (i + 1) hi).2 (by omega)⟩
    obtain ⟨i, hi, rfl⟩ := List.mem_iff_getElem.1 hx
    exact (h i hi).1
def capA (a s : Int) : Int := min (a + min (max s 0) 4194305) 4194305
def sumC (l : List En) : Int := l.foldl (fun a e => capA a e.size) 0
def whyE (l : List En) : Int :=
  if (l.map (·.path)).all okPath = false then 9
  else if sortedB (l.map (·.path)) = false then 10
  else if 1024 < l.length ∨ 4194304 < sumC l ∨ l.all (fun e => decide (e.size ≤ 1048576)) = false then 7
  else if l.all plainB = false then 1
  else 0
end Go.Proofs.YtfppancidgamjaaDoor
