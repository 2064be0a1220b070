/- Package entry: the walks over Of, Right and Fine. -/
import Derived.Test.YtfppancidgamjaaDoorE5
namespace Go.Proofs.YtfppancidgamjaaDoor
set_option linter.unusedVariables false
set_option linter.unusedSimpArgs false
open Go.RowKit

/-- What a call leaves that returns a slice and an error. -/
def Ret2A {α : Type} (k : Nat) (cs : α → List Value) (w : World) (l : List α) (z : Int) (e : Ending) (w' : World) : Prop := ∃ A c, e = .returned (.tuple #[.slice A l.length c, .int .i64 z]) ∧ (l.length ≤ c ∧ c ≤ 9223372036854775807) ∧ RdA k cs w' A l ∧ Below w.heap.size w w'
theorem Ret2A.mk {α : Type} {k : Nat} {cs : α → List Value} {w w' : World} {l : List α} {z : Int} {e : Ending} {A : Option Addr} {n c : Nat} {z' : Int} (he : e = .returned (.tuple #[.slice A n c, .int .i64 z'])) (hn : n = l.length) (hz : z' = z) (hc : n ≤ c ∧ c ≤ 9223372036854775807) (hr : RdA k cs w' A l) (hb : Below w.heap.size w w') : Ret2A k cs w l z e w' := ⟨A, c, by rw [he, hn, hz], by rw [← hn]; exact hc, hr, hb⟩

/-- What every file of Go is. -/
structure Fi.ok (f : Fi) : Prop where
  path : f.path.length ≤ 4294967280
  kind : okI f.kind
  mode : okI f.mode
  time : okI f.time
  tgt : f.tgt.length ≤ 9223372036854775807
theorem entsFrom_ok : ∀ (l : List Fi) (a : Int), (∀ f ∈ l, f.ok) → 0 ≤ a → a + (dataLen l : Int) ≤ 4294967296 → ∀ e ∈ entsFrom a l, e.ok ∧ e.path.length ≤ 4294967280
  | [], _, _, _, _ => fun e he => by cases he
  | f :: l, a, h, h0, h1 => fun e he => by
    have hd : dataLen (f :: l) = f.data.length + dataLen l := rfl
    have hf := h f List.mem_cons_self
    unfold entsFrom at he
    rcases List.mem_cons.1 he with rfl | he
    · exact ⟨⟨by have := hf.path; simp only; omega, hf.kind, hf.mode, hf.time, hf.tgt, ⟨by simp only; omega, by simp only; omega⟩, ⟨by simp only; omega, by simp only; omega⟩⟩, hf.path⟩
    · exact entsFrom_ok l _ (fun g hg => h g (List.mem_cons_of_mem _ hg)) (by omega) (by omega) e he
theorem ents_ok {l : List Fi} (h : ∀ f ∈ l, f.ok) (hs : dataLen l ≤ 4294967296) : ∀ e ∈ ents l, e.ok ∧ e.path.length ≤ 4294967280 := entsFrom_ok l 0 h (Int.le_refl _) (by omega)
def ofE (l : List Fi) : List En := if whyE (ents l) = 0 then ents l else []

set_option maxHeartbeats 1600000 in
theorem of_any (A : Option Addr) (c : Nat) (l : List (Fi × Value)) (hl : l.length ≤ 4294967296) (hs : dataLen (l.map (·.1)) ≤ 4294967296) (ok : ∀ x ∈ l, x.1.ok) (w : World) (h : Sh w) (hr : RdF w A l) :
    Calls Tryd.prog 13 #[.slice A l.length c] w (Ret2A 7 enL w (ofE (l.map (·.1))) (whyE (ents (l.map (·.1))))) := by
  have hb := Below.refl w.heap.size w
  have Hh := Lib.hid (fun w1 (b : Below w.heap.size w w1) => sh_below h b)
  have hk := ents_ok (l := l.map (·.1)) (by intro f hf; obtain ⟨x, hx, rfl⟩ := List.mem_map.1 hf; exact ok x hx) hs
  have hel : (ents (l.map (·.1))).length = l.length := by unfold ents; rw [entsFrom_length]; simp
  have E1 := Lib.hid (entries_any A c l hl hs w hr)
  have W1 := Lib.hid (fun A' c' w1 h1 hr => why_any A' c' (ents (l.map (·.1))) (by omega) (fun e he => (hk e he).1) (fun e he => (hk e he).2) w1 h1 hr)
  have Ho := Lib.hid (show ofE (l.map (·.1)) = if whyE (ents (l.map (·.1))) = 0 then ents (l.map (·.1)) else [] from rfl)
  clear hk hel h hr
  generalize ofE (l.map (·.1)) = o at *
  generalize ents (l.map (·.1)) = es at *
  generalize whyE es = z at *
  by_cases h0 : z = 0
  · subst h0
    obtain rfl : o = es := Ho.out
    go_enter Tryd.func13, Tryd.ntmps13
    go_wp2_with fail
    refine E1.out.mono ?_
    rintro e w1 ⟨A1, c1, rfl, k1, r1, b1⟩
    have R1 := Lib.hid r1
    clear r1
    go_wp2_with fail
    refine (W1.out _ _ _ (Hh.out _ b1) R1.out).mono ?_
    rintro e w2 ⟨rfl, b2⟩
    have R2 := Lib.hid (R1.out.below b2)
    have hb2 := b1.trans (b2.mono b1.size)
    clear b1 b2
    go_wp2
    go_ret2
    exact Ret2A.mk rfl rfl rfl k1 R2.out hb2
  · obtain rfl : o = [] := by rw [Ho.out, if_neg h0]
    have h0' : (z == 0) = false := by simpa using h0
    go_enter Tryd.func13, Tryd.ntmps13
    go_wp2_with fail
    refine E1.out.mono ?_
    rintro e w1 ⟨A1, c1, rfl, k1, r1, b1⟩
    have R1 := Lib.hid r1
    clear r1
    go_wp2_with fail
    refine (W1.out _ _ _ (Hh.out _ b1) R1.out).mono ?_
    rintro e w2 ⟨rfl, b2⟩
    have hb2 := b1.trans (b2.mono b1.size)
    clear b1 b2
    go_wp2
    go_ret2
    exact Ret2A.mk rfl rfl rfl cap0 RdA.nil hb2

theorem rightE_any (A : Option Addr) (c : Nat) (l : List (Fi × Value)) (hl : l.length ≤ 4294967296) (hs : dataLen (l.map (·.1)) ≤ 4294967296) (ok : ∀ x ∈ l, x.1.ok) (w : World) (h : Sh w) (hr : RdF w A l) :
    Calls Tryd.prog 17 #[.slice A l.length c] w fun e w' => e = .returned (.bool (whyE (ents (l.map (·.1))) == 0)) ∧ Below w.heap.size w w' := by
  have hb := Below.refl w.heap.size w
  have Hh := Lib.hid (fun w1 (b : Below w.heap.size w w1) => sh_below h b)
  have hk := ents_ok (l := l.map (·.1)) (by intro f hf; obtain ⟨x, hx, rfl⟩ := List.mem_map.1 hf; exact ok x hx) hs
  have hel : (ents (l.map (·.1))).length = l.length := by unfold ents; rw [entsFrom_length]; simp
  have E1 := Lib.hid (entries_any A c l hl hs w hr)
  have W1 := Lib.hid (fun A' c' w1 h1 hr => why_any A' c' (ents (l.map (·.1))) (by omega) (fun e he => (hk e he).1) (fun e he => (hk e he).2) w1 h1 hr)
  clear hk hel h hr
  generalize ents (l.map (·.1)) = es at *
  generalize whyE es = z at *
  go_enter Tryd.func17, Tryd.ntmps17
  go_wp2_with fail
  refine E1.out.mono ?_
  rintro e w1 ⟨A1, c1, rfl, k1, r1, b1⟩
  have R1 := Lib.hid r1
  clear r1
  go_wp2_with fail
  refine (W1.out _ _ _ (Hh.out _ b1) R1.out).mono ?_
  rintro e w2 ⟨rfl, b2⟩
  have hb2 := b1.trans (b2.mono b1.size)
  clear b1 b2
  go_wp2
  go_ret
  exact ⟨rfl, hb2⟩

/-! Fine -/
def begB : Int → List En → Bool
  | _, [] => true
  | a, e :: l => (e.beg == a) && begB (a + e.size) l
def fineB (l : List En) : Bool := (whyE l == 0) && begB 0 l
def sumS (l : List En) : Int := (l.map (·.size)).sum
theorem sumS_snoc (l : List En) (e : En) : sumS (l ++ [e]) = sumS l + e.size := by simp [sumS]
theorem begB_index : ∀ (l : List En) (a : Int), begB a l = true ↔ ∀ i (h : i < l.length), l[i].beg = a + sumS (l.take i)
  | [], a => by simp [begB]
  | e :: l, a => by
    have ih := begB_index l (a + e.size)
    unfold begB
    rw [Bool.and_eq_true, ih, beq_iff_eq]
    constructor
    · rintro ⟨h1, h2⟩ i hi
      cases i with
      | zero => simpa [sumS] using h1
      | succ i =>
        have := h2 i (by simpa using hi)
        simp only [List.getElem_cons_succ, List.take_succ_cons]
        rw [this]; simp [sumS]; omega
    · intro h
      refine ⟨by have := h 0 (by simp); simpa [sumS] using this, fun i hi => ?_⟩
      have := h (i + 1) (by simpa using hi)
      simp only [List.getElem_cons_succ, List.take_succ_cons] at this
      rw [this]; simp [sumS]; omega
theorem whyE_zero {l : List En} (h : whyE l = 0) : sortedB (l.map (·.path)) = true ∧ l.length ≤ 1024 ∧ sumC l ≤ 4194304 ∧ ∀ e ∈ l, plainP e := by
  rw [whyE_eq] at h
  by_cases h1 : (l.map (·.path)).all okPath = false
  · rw [if_pos h1] at h; cases h
  rw [if_neg h1] at h
  by_cases h2 : sortedB (l.map (·.path)) = false
  · rw [if_pos h2] at h; cases h
  rw [if_neg h2] at h
  by_cases h3 : 1024 < l.length ∨ 4194304 < sumC l ∨ l.all (fun e => decide (e.size ≤ 1048576)) = false
  · rw [if_pos h3] at h; cases h
  rw [if_neg h3] at h
  by_cases h4 : l.all plainB = false
  · rw [if_pos h4] at h; cases h
  refine ⟨by simpa using h2, by omega, by omega, fun e he => ?_⟩
  have h5 : l.all plainB = true := by simpa using h4
  have := List.all_eq_true.1 h5 e he
  exact of_decide_eq_true this
theorem sumS_range : ∀ {l : List En}, (∀ e ∈ l, plainP e) → 0 ≤ sumS l ∧ sumS l ≤ 1048576 * l.length
  | [], _ => by simp [sumS]
  | e :: l, h => by
    have ih := sumS_range (l := l) (fun x hx => h x (List.mem_cons_of_mem _ hx))
    have he := h e List.mem_cons_self
    have : sumS (e :: l) = e.size + sumS l := by simp [sumS]
    obtain ⟨_, _, _, _, h5, h6, _⟩ := he
    rw [this, List.length_cons]
    omega

theorem fine1_any (e : En) (g : Nat) (a : Int) (ha : 0 ≤ a) (ha' : a ≤ 4294967296) (he : 0 ≤ e.size) (he' : e.size ≤ 4294967296) (B : Nat) (w : World) (hg : Own B (Bk g 3 #[.int .i64 a] * Emp) w) :
    Calls Tryd.prog 35 #[.agg (enL e).toArray, .pointer (some ⟨g, 0, none⟩)] w fun x w' => x = .returned (.bool (e.beg == a)) ∧ Own B (Bk g 3 #[.int .i64 (a + e.size)] * Emp) w' ∧ Below B w w' := by
  obtain ⟨path, kind, mode, time, tgt, beg, size⟩ := e
  simp only at he he'
  simp only [enL]
  have hk := hg.bk
  have hB : B ≤ w.heap.size := by omega
  have o1 := hg.alloc_keep hB (.cells #[.string (str path), .int .i64 kind, .int .i64 mode, .int .i64 time, .string (str tgt), .int .i64 beg, .int .i64 size] 30)
  have hb1 := (Below.refl B w).alloc hB (.cells #[.string (str path), .int .i64 kind, .int .i64 mode, .int .i64 time, .string (str tgt), .int .i64 beg, .int .i64 size] 30)
  have c0 := o1.cell 0
  have f0 := o1.unfrozen 0
  have o2 := o1.set (Nat.le_trans hB hb1.size) 0 (.int .i64 (a + size))
  have hb2 := hb1.trans (o1.below_set 0 (.int .i64 (a + size)))
  have hne : ¬ w.heap.size = g := by omega
  have hne2 : ¬ g = w.heap.size := by omega
  clear hg hk o1
  go_enter Tryd.func35, Tryd.ntmps35
  go_wp2
  go_ret
  exact ⟨rfl, o2, hb2⟩

set_option maxHeartbeats 1600000 in
theorem fine_any (A : Option Addr) (c : Nat) (l : List En) (hl : l.length ≤ 4294967296) (ok : ∀ e ∈ l, e.ok) (hx : ∀ e ∈ l, e.path.length ≤ 4294967280) (w : World) (h : Sh w) (hr : RdA 7 enL w A l) :
    Calls Tryd.prog 14 #[.slice A l.length c] w fun e w' => e = .returned (.bool (fineB l)) ∧ Below w.heap.size w w' := by
  have hb := Below.refl w.heap.size w
  have Hr := Lib.hid (fun w1 (b : Below w.heap.size w w1) => hr.below b)
  have Hr0 := Lib.hid hr
  have W1 := Lib.hid (why_any A c l hl ok hx w h hr)
  have Hf := Lib.hid (show fineB l = ((whyE l == 0) && begB 0 l) from rfl)
  by_cases h0 : whyE l = 0
  · obtain ⟨_, hl2, _, hp⟩ := whyE_zero h0
    have Hp := Lib.hid hp
    have hB0 : Hid (∀ r, (r = true ↔ ∀ i, i < l.length → ((l.getD i default).beg == sumS (l.take i)) = true) → r = fineB l) := Lib.hid (fun r hr => by
      rw [Hf.out, h0, Bool.eq_iff_iff, hr]
      simp only [beq_self_eq_true, Bool.true_and]
      rw [begB_index]
      constructor
      · intro h i hi
        have := h i hi
        rw [beq_iff_eq] at this
        rw [Int.zero_add, ← this]; simp [hi]
      · intro h i hi
        have := h i hi
        rw [Int.zero_add] at this
        rw [beq_iff_eq, ← this]; simp [hi])
    have A1 := Lib.hid (fun (g : Nat) (W : World) (b : Below w.heap.size w W) (ho : Own w.heap.size (Bk g 3 #[.int .i64 0] * Emp) W) =>
      all_any 35 (fun _ _ => by kernel_rfl) #[.pointer (some ⟨g, 0, none⟩)] (fun i W => Own w.heap.size (Bk g 3 #[.int .i64 (sumS (l.take i))] * Emp) W) (fun i => (l.getD i default).beg == sumS (l.take i)) A c l (by omega) w W b Hr0.out (by simpa [sumS] using ho)
        (fun i W o h => h.alloc_keep (by have := h.bk; omega) o) (fun i hi W hb hI => by
          have hg : l.getD i default = l[i] := by simp [hi]
          have hs1 := sumS_range (l := l.take i) (fun e he => Hp.out e (List.mem_of_mem_take he))
          have hz := Hp.out _ (List.getElem_mem hi)
          obtain ⟨_, _, _, _, h5, h6, _⟩ := hz
          have hlt : (l.take i).length ≤ 1024 := by rw [List.length_take]; omega
          rw [hg]
          refine (fine1_any l[i] g (sumS (l.take i)) hs1.1 (by omega) h5 (by omega) w.heap.size W hI).mono ?_
          rintro e W' ⟨rfl, ho, hb'⟩
          refine ⟨rfl, fun _ => ?_, hb'⟩
          rw [List.take_succ_eq_append_getElem hi, sumS_snoc]
          exact ho))
    rw [h0] at W1
    clear h hr h0 hl2 hp Hf Hp
    go_enter Tryd.func14, Tryd.ntmps14
    go_wp2_with fail
    refine W1.out.mono ?_
    rintro e w1 ⟨rfl, b1⟩
    have o1 := (Own.start w.heap.size w1).new b1.size 3 #[.int .i64 0]
    have hb1 := b1.alloc b1.size (.cells #[.int .i64 0] 3)
    clear b1
    go_wp2_with fail
    refine (A1.out _ _ hb1 o1).mono ?_
    rintro e w2 ⟨rfl, b2⟩
    have hf2 := hB0.out _ allB_true
    rw [hf2]
    clear hB0 hf2 A1 o1 hb1
    go_wp2
    go_ret
    exact ⟨rfl, b2⟩
  · have h0' : (whyE l == 0) = false := by simpa using h0
    have Hf2 : Hid (fineB l = false) := Lib.hid (by rw [Hf.out, h0']; rfl)
    clear h hr Hf h0
    generalize whyE l = z at *
    have h0 : ¬ z = 0 := by simpa using h0'
    go_enter Tryd.func14, Tryd.ntmps14
    go_wp2_with fail
    refine W1.out.mono ?_
    rintro e w1 ⟨rfl, b1⟩
    go_wp2
    go_ret
    exact ⟨by rw [Hf2.out]; rfl, b1⟩
end Go.Proofs.YtfppancidgamjaaDoor
