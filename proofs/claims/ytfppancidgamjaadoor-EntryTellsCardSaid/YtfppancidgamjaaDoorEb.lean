/- The walks over what the laws on entries use: Few, Short, given, told, same. -/
import Derived.Test.YtfppancidgamjaaDoorEa
namespace Go.Proofs.YtfppancidgamjaaDoor
set_option linter.unusedVariables false
set_option linter.unusedSimpArgs false
open Go.RowKit

/-- What every file of Go is, however great. -/
structure Fi.wide (f : Fi) : Prop where
  path : f.path.length ≤ 9223372036854775807
  kind : okI f.kind
  mode : okI f.mode
  time : okI f.time
  tgt : f.tgt.length ≤ 9223372036854775807
  data : f.data.length ≤ 9223372036854775807
def smallF (f : Fi) : Prop := f.path.length ≤ 300 ∧ f.tgt.length ≤ 300 ∧ f.data.length ≤ 200
instance (f : Fi) : Decidable (smallF f) := by unfold smallF; infer_instance
def fewP (l : List Fi) : Prop := l.length ≤ 12 ∧ ∀ f ∈ l, smallF f
instance (l : List Fi) : Decidable (fewP l) := by unfold fewP; infer_instance
theorem few_ok {l : List (Fi × Value)} (hw : ∀ x ∈ l, x.1.wide) (h : fewP (l.map (·.1))) : l.length ≤ 12 ∧ dataLen (l.map (·.1)) ≤ 2400 ∧ ∀ x ∈ l, x.1.ok := by
  refine ⟨by simpa using h.1, ?_, fun x hx => ?_⟩
  · have : ∀ m : List Fi, (∀ f ∈ m, smallF f) → dataLen m ≤ 200 * m.length := by
      intro m
      induction m with
      | nil => intro _; simp [dataLen]
      | cons f m ih =>
        intro hm
        have h1 := ih (fun g hg => hm g (List.mem_cons_of_mem _ hg))
        have h2 := (hm f List.mem_cons_self).2.2
        have h3 : dataLen (f :: m) = f.data.length + dataLen m := rfl
        rw [h3, List.length_cons]; omega
    have h1 := this _ h.2
    have h2 := h.1
    omega
  · have h1 := hw x hx
    have h2 := h.2 x.1 (List.mem_map_of_mem hx)
    exact ⟨by have := h2.1; omega, h1.kind, h1.mode, h1.time, h1.tgt⟩
theorem cells6 {w : World} {b off : Nat} {i : Nat} {x : Fi × Value} (d : ∀ j u, (fiL x)[j]? = some u → w.cell? ⟨b, off + i * 6 + j, none⟩ = some u) :
    w.cell? ⟨b, off + i * 6, none⟩ = some (.string (str x.1.path)) ∧ w.cell? ⟨b, off + i * 6 + 1, none⟩ = some (.int .i64 x.1.kind) ∧ w.cell? ⟨b, off + i * 6 + 2, none⟩ = some (.int .i64 x.1.mode) ∧ w.cell? ⟨b, off + i * 6 + 3, none⟩ = some (.int .i64 x.1.time) ∧
    w.cell? ⟨b, off + i * 6 + 4, none⟩ = some x.2 ∧ w.cell? ⟨b, off + i * 6 + 5, none⟩ = some (.string (str x.1.tgt)) :=
  ⟨d 0 _ rfl, d 1 _ rfl, d 2 _ rfl, d 3 _ rfl, d 4 _ rfl, d 5 _ rfl⟩

set_option maxRecDepth 100000 in
set_option maxHeartbeats 1600000 in
theorem few_any (A : Option Addr) (c : Nat) (l : List (Fi × Value)) (hl : l.length ≤ 9223372036854775807) (hw : ∀ x ∈ l, x.1.wide) (w : World) (hr : RdF w A l) :
    Calls Tryd.prog 11 #[.slice A l.length c] w fun e w' => e = .returned (.bool (decide (fewP (l.map (·.1))))) ∧ w = w' := by
  have Hr := Lib.hid hr
  have Hw := Lib.hid hw
  have n1 : (l.length : Int) ≤ 9223372036854775807 := by omega
  have Hbad : Hid (∀ x ∈ l, ¬ smallF x.1 → decide (fewP (l.map (·.1))) = false) := Lib.hid (fun x hx h => decide_eq_false (fun h' => h (h'.2 _ (List.mem_map_of_mem hx))))
  have Hlong : Hid (12 < l.length → decide (fewP (l.map (·.1))) = false) := Lib.hid (fun h => decide_eq_false (fun h' => by have := h'.1; simp at this; omega))
  have Hgood : Hid (l.length ≤ 12 → (∀ x ∈ l, smallF x.1) → decide (fewP (l.map (·.1))) = true) := Lib.hid (fun h1 h2 => decide_eq_true ⟨by simpa using h1, fun f hf => by obtain ⟨x, hx, rfl⟩ := List.mem_map.1 hf; exact h2 x hx⟩)
  clear hr hw
  go_enter Tryd.func11, Tryd.ntmps11
  go_wp2
  go_loopg [3] l.length (fun k v wr => ∃ i : Nat, k + i = l.length ∧ i ≤ 13 ∧ v = .int .i64 i ∧ wr = w ∧ Hid (∀ x ∈ l.take i, smallF x.1))
  case atStart => exact ⟨0, by omega, by omega, rfl, rfl, Lib.hid (by simp)⟩
  case round =>
    obtain ⟨i, hk, hi13, rfl, rfl, hq⟩ := hrel
    have i0' : (0 : Int) ≤ (i : Int) := by omega
    by_cases hlt : (i : Int) < (l.length : Int)
    · by_cases h12 : (i : Int) ≤ 12
      · obtain ⟨j, rfl⟩ : ∃ j, gk = j + 1 := ⟨gk - 1, by omega⟩
        have hil : i < l.length := by omega
        obtain ⟨b, off, rfl, q, d⟩ := Hr.out.1 i hil
        obtain ⟨Ad, cd, hdv⟩ := Hr.out.get i hil
        have Hk := Lib.hid hk
        have hwi := Hw.out _ (List.getElem_mem hil)
        have w1 := hwi.path
        have w2 := hwi.tgt
        have w3 := hwi.data
        have Hb := Lib.hid (Hbad.out _ (List.getElem_mem hil))
        have Hq2 : Hid (smallF l[i].1 → ∀ x ∈ l.take (i + 1), smallF x.1) := Lib.hid (fun h x hx => by
          rw [List.take_succ_eq_append_getElem hil] at hx
          rcases List.mem_append.1 hx with hx | hx
          · exact hq.out x hx
          · rw [List.mem_singleton.1 hx]; exact h)
        clear hk hq hwi
        generalize l[i] = x at *
        obtain ⟨⟨path, kind, mode, time, data, tgt⟩, dv⟩ := x
        obtain ⟨d0, d1, d2, d3, d4, d5⟩ := cells6 d
        simp only at d0 d1 d2 d3 d4 d5 hdv w1 w2 w3 Hb Hq2
        subst hdv
        clear d
        have z1 : ((str path).size : Int) ≤ 9223372036854775807 := by show (path.length : Int) ≤ _; omega
        have z2 : ((str tgt).size : Int) ≤ 9223372036854775807 := by show (tgt.length : Int) ≤ _; omega
        have z3 : (data.length : Int) ≤ 9223372036854775807 := by omega
        have Z := Lib.hid (And.intro (show (str path).size = path.length from rfl) (show (str tgt).size = tgt.length from rfl))
        by_cases s1 : (300 : Int) < ((str path).size : Int)
        · have Hf := Lib.hid (Hb.out (fun h => by have := h.1; have := Z.out; simp only at *; omega))
          go_wp2
          go_ret
          exact ⟨by rw [Hf.out]; rfl, rfl⟩
        by_cases s2 : (300 : Int) < ((str tgt).size : Int)
        · have Hf := Lib.hid (Hb.out (fun h => by have := h.2.1; have := Z.out; simp only at *; omega))
          go_wp2
          go_ret
          exact ⟨by rw [Hf.out]; rfl, rfl⟩
        by_cases s3 : (200 : Int) < (data.length : Int)
        · have Hf := Lib.hid (Hb.out (fun h => by have := h.2.2; simp only at *; omega))
          go_wp2
          go_ret
          exact ⟨by rw [Hf.out]; rfl, rfl⟩
        have Hq3 := Lib.hid (Hq2.out ⟨by have := Z.out; simp only at *; omega, by have := Z.out; simp only at *; omega, by simp only; omega⟩)
        go_wp2
        go_roundg j
        case measure => omega
        case rel => exact ⟨i + 1, by have := Hk.out; omega, by omega, rfl, rfl, Hq3⟩
      · have h12' : (12 : Int) < (l.length : Int) := by omega
        have h12n : ¬ (l.length : Int) ≤ 12 := by omega
        have Hf := Lib.hid (Hlong.out (by omega))
        go_wp2
        go_ret
        exact ⟨by rw [Hf.out]; rfl, rfl⟩
    · by_cases h12 : (l.length : Int) ≤ 12
      · have Hf := Lib.hid (Hgood.out (by omega) (fun x hx => hq.out x (by rw [List.take_of_length_le (by omega)]; exact hx)))
        go_wp2
        go_ret
        exact ⟨by rw [Hf.out]; rfl, rfl⟩
      · have Hf := Lib.hid (Hlong.out (by omega))
        have h12n : decide ((l.length : Int) ≤ 12) = false := by simpa using h12
        go_wp2
        go_ret
        exact ⟨by rw [Hf.out]; rfl, rfl⟩

def shortE (e : En) : Prop := e.path.length ≤ 300 ∧ e.tgt.length ≤ 300 ∧ e.size ≤ 1099511627776 ∧ -1099511627776 ≤ e.size
instance (f : En) : Decidable (shortE f) := by unfold shortE; infer_instance
def shortP (l : List En) : Prop := l.length ≤ 20 ∧ ∀ f ∈ l, shortE f
instance (l : List En) : Decidable (shortP l) := by unfold shortP; infer_instance
set_option maxRecDepth 100000 in
set_option maxHeartbeats 1600000 in
theorem short_any (A : Option Addr) (c : Nat) (l : List En) (hl : l.length ≤ 9223372036854775807) (hw : ∀ x ∈ l, x.ok) (w : World) (hr : RdA 7 enL w A l) :
    Calls Tryd.prog 19 #[.slice A l.length c] w fun e w' => e = .returned (.bool (decide (shortP l))) ∧ w = w' := by
  have Hr := Lib.hid hr
  have Hw := Lib.hid hw
  have n1 : (l.length : Int) ≤ 9223372036854775807 := by omega
  have Hbad : Hid (∀ x ∈ l, ¬ shortE x → decide (shortP l) = false) := Lib.hid (fun x hx h => decide_eq_false (fun h' => h (h'.2 _ hx)))
  have Hlong : Hid (20 < l.length → decide (shortP l) = false) := Lib.hid (fun h => decide_eq_false (fun h' => by have := h'.1; omega))
  have Hgood : Hid (l.length ≤ 20 → (∀ x ∈ l, shortE x) → decide (shortP l) = true) := Lib.hid (fun h1 h2 => decide_eq_true ⟨h1, h2⟩)
  clear hr hw
  go_enter Tryd.func19, Tryd.ntmps19
  go_wp2
  go_loopg [3] l.length (fun k v wr => ∃ i : Nat, k + i = l.length ∧ i ≤ 21 ∧ v = .int .i64 i ∧ wr = w ∧ Hid (∀ x ∈ l.take i, shortE x))
  case atStart => exact ⟨0, by omega, by omega, rfl, rfl, Lib.hid (by simp)⟩
  case round =>
    obtain ⟨i, hk, hi13, rfl, rfl, hq⟩ := hrel
    have i0' : (0 : Int) ≤ (i : Int) := by omega
    by_cases hlt : (i : Int) < (l.length : Int)
    · by_cases h12 : (i : Int) ≤ 20
      · obtain ⟨j, rfl⟩ : ∃ j, gk = j + 1 := ⟨gk - 1, by omega⟩
        have hil : i < l.length := by omega
        obtain ⟨b, off, rfl, q, d⟩ := Hr.out i hil
        have Hk := Lib.hid hk
        have hwi := Hw.out _ (List.getElem_mem hil)
        have w1 := hwi.path
        have w2 := hwi.tgt
        have w3 := hwi.size
        have Hb := Lib.hid (Hbad.out _ (List.getElem_mem hil))
        have Hq2 : Hid (shortE l[i] → ∀ x ∈ l.take (i + 1), shortE x) := Lib.hid (fun h x hx => by
          rw [List.take_succ_eq_append_getElem hil] at hx
          rcases List.mem_append.1 hx with hx | hx
          · exact hq.out x hx
          · rw [List.mem_singleton.1 hx]; exact h)
        clear hk hq hwi
        generalize l[i] = x at *
        obtain ⟨path, kind, mode, time, tgt, beg, size⟩ := x
        obtain ⟨d0, d1, d2, d3, d4, d5, d6⟩ := RdA.cells7 d
        simp only [okI] at d0 d1 d2 d3 d4 d5 d6 w1 w2 w3 Hb Hq2
        obtain ⟨z4, z5⟩ := w3
        clear d
        have z1 : ((str path).size : Int) ≤ 9223372036854775807 := by show (path.length : Int) ≤ _; omega
        have z2 : ((str tgt).size : Int) ≤ 9223372036854775807 := by show (tgt.length : Int) ≤ _; omega
        have Z := Lib.hid (And.intro (show (str path).size = path.length from rfl) (show (str tgt).size = tgt.length from rfl))
        by_cases s1 : (300 : Int) < ((str path).size : Int)
        · have Hf := Lib.hid (Hb.out (fun h => by have := h.1; have := Z.out; simp only at *; omega))
          go_wp2
          go_ret
          exact ⟨by rw [Hf.out]; rfl, rfl⟩
        by_cases s2 : (300 : Int) < ((str tgt).size : Int)
        · have Hf := Lib.hid (Hb.out (fun h => by have := h.2.1; have := Z.out; simp only at *; omega))
          go_wp2
          go_ret
          exact ⟨by rw [Hf.out]; rfl, rfl⟩
        by_cases s3 : 1099511627776 < size
        · have Hf := Lib.hid (Hb.out (fun h => by have := h.2.2.1; simp only at *; omega))
          go_wp2
          go_ret
          exact ⟨by rw [Hf.out]; rfl, rfl⟩
        by_cases s4 : size < -1099511627776
        · have Hf := Lib.hid (Hb.out (fun h => by have := h.2.2.2; simp only at *; omega))
          go_wp2
          go_ret
          exact ⟨by rw [Hf.out]; rfl, rfl⟩
        have Hq3 := Lib.hid (Hq2.out ⟨by have := Z.out; simp only at *; omega, by have := Z.out; simp only at *; omega, by simp only; omega, by simp only; omega⟩)
        go_wp2
        go_roundg j
        case measure => omega
        case rel => exact ⟨i + 1, by have := Hk.out; omega, by omega, rfl, rfl, Hq3⟩
      · have h12' : (20 : Int) < (l.length : Int) := by omega
        have h12n : ¬ (l.length : Int) ≤ 20 := by omega
        have Hf := Lib.hid (Hlong.out (by omega))
        go_wp2
        go_ret
        exact ⟨by rw [Hf.out]; rfl, rfl⟩
    · by_cases h12 : (l.length : Int) ≤ 20
      · have Hf := Lib.hid (Hgood.out (by omega) (fun x hx => hq.out x (by rw [List.take_of_length_le (by omega)]; exact hx)))
        go_wp2
        go_ret
        exact ⟨by rw [Hf.out]; rfl, rfl⟩
      · have Hf := Lib.hid (Hlong.out (by omega))
        have h12n : decide ((l.length : Int) ≤ 20) = false := by simpa using h12
        go_wp2
        go_ret
        exact ⟨by rw [Hf.out]; rfl, rfl⟩
end Go.Proofs.YtfppancidgamjaaDoor
