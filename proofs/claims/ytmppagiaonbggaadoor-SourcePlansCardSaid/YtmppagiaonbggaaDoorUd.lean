/- Texts of one proof, merged: XE5 XE6 XE7 XE8 XE9 XEa XEb XEo. -/
import Derived.Test.YtmppagiaonbggaaDoorUc
import Derived.Laws.StructEq
import Derived.Deep.Fields
import Derived.ChangeSame
/- Package entry: the walk over what is amiss with entries. -/
namespace Go.Proofs.YtmppagiaonbggaaDoor
set_option linter.unusedVariables false
set_option linter.unusedSimpArgs false
set_option maxRecDepth 100000
open Go.RowKit

theorem all_pure (N : FuncId) (hN : ∀ (xs : Array Value) (W : World), (callFunc N xs).run Tryd.prog W = .ok (.enter N xs) W) (q : En → Bool) (A : Option Addr) (c : Nat) (l : List En) (hl : l.length ≤ 9223372036854775807) (w : World) (hr : RdA 7 enL w A l)
    (hf : ∀ e ∈ l, ∀ W, Calls Tryd.prog N #[.agg (enL e).toArray] W fun x W' => x = .returned (.bool (q e)) ∧ Below W.heap.size W W') :
    Calls Tryd.prog 57 #[.slice A l.length c, .func (.func N) #[] #[]] w fun e W' => e = .returned (.bool (l.all q)) ∧ Below w.heap.size w W' := by
  have h := all_any N hN #[] (fun _ _ => True) (fun i => q (l.getD i default)) A c l hl w w (Below.refl _ _) hr trivial (fun _ _ _ _ => trivial) (fun i hi W hb _ => by
    have hg : l.getD i default = l[i] := by simp [hi]
    rw [hg, Array.append_empty]
    exact (hf _ (List.getElem_mem hi) W).mono fun e W' ⟨he, hb'⟩ => ⟨he, fun _ => trivial, hb'.mono hb.size⟩)
  rw [allB_list q l default] at h
  exact h
theorem run_small (xs : Array Value) (W : World) : (callFunc 58 xs).run Tryd.prog W = .ok (.enter 58 xs) W := by kernel_rfl
theorem run_plain (xs : Array Value) (W : World) : (callFunc 59 xs).run Tryd.prog W = .ok (.enter 59 xs) W := by kernel_rfl

theorem whyE_eq (l : List En) : whyE l = if (l.map (·.path)).all okPath = false then 9
  else if sortedB (l.map (·.path)) = false then 10
  else if 1024 < l.length ∨ 4194304 < sumC l ∨ l.all (fun e => decide (e.size ≤ 1048576)) = false then 7
  else if l.all plainB = false then 1
  else 0 := rfl
theorem capA_range {a s : Int} (h0 : 0 ≤ a) : 0 ≤ capA a s ∧ capA a s ≤ 4194305 := by unfold capA; omega
theorem sumC_snoc (l : List En) (e : En) : sumC (l ++ [e]) = capA (sumC l) e.size := by unfold sumC; rw [List.foldl_append]; rfl
theorem sumC_range (l : List En) : 0 ≤ sumC l ∧ sumC l ≤ 4194305 := by
  rcases List.eq_nil_or_concat l with rfl | ⟨m, e, rfl⟩
  · exact ⟨Int.le_refl _, by decide⟩
  · rw [List.concat_eq_append, sumC_snoc]
    refine capA_range ?_
    have : ∀ (l : List En) (a : Int), 0 ≤ a → 0 ≤ l.foldl (fun a e => capA a e.size) a := by
      intro l
      induction l with
      | nil => intro a h; exact h
      | cons e l ih => intro a h; exact ih _ (capA_range h).1
    exact this m 0 (Int.le_refl _)

set_option maxRecDepth 100000 in
set_option maxHeartbeats 3200000 in
theorem why_any (A : Option Addr) (c : Nat) (l : List En) (hl : l.length ≤ 4294967296) (ok : ∀ e ∈ l, e.ok) (hx : ∀ e ∈ l, e.path.length ≤ 4294967280) (w : World) (h : Sh w) (hr : RdA 7 enL w A l) :
    Calls Tryd.prog 32 #[.slice A l.length c] w fun e w' => e = .returned (.int .i64 (whyE l)) ∧ Below w.heap.size w w' := by
  have hb := Below.refl w.heap.size w
  have Hh := Lib.hid (fun w1 (b : Below w.heap.size w w1) => sh_below h b)
  have Hr := Lib.hid (fun w1 (b : Below w.heap.size w w1) => hr.below b)
  have Ok := Lib.hid ok
  have Hx := Lib.hid hx
  have n1 : (l.length : Int) ≤ 4294967296 := by omega
  clear h hr ok hx
  go_enter Tryd.func32, Tryd.ntmps32
  go_wp2
  go_loopg [3, 8] l.length (fun k a v wr => ∃ i : Nat, k + i = l.length ∧ v = .int .i64 i ∧ a = .int .i64 (sumC (l.take i)) ∧ Below w.heap.size w wr)
  case atStart => exact ⟨0, by omega, rfl, rfl, hb⟩
  case round =>
    clear hb
    obtain ⟨i, hk, rfl, rfl, hb⟩ := hrel
    by_cases hlt : (i : Int) < (l.length : Int)
    · obtain ⟨j, rfl⟩ : ∃ j, gk = j + 1 := ⟨gk - 1, by omega⟩
      have hil : i < l.length := by omega
      have i0' : (0 : Int) ≤ (i : Int) := by omega
      obtain ⟨b, off, rfl, q, d⟩ := Hr.out _ hb i hil
      have Hk := Lib.hid hk
      have Hsn : Hid (sumC (l.take (i + 1)) = capA (sumC (l.take i)) l[i].size) := Lib.hid (by rw [List.take_succ_eq_append_getElem hil, sumC_snoc])
      obtain ⟨a0, a1⟩ := sumC_range (l.take i)
      have hz := (Ok.out _ (List.getElem_mem hil)).size
      clear hk
      generalize sumC (l.take i) = a at *
      generalize l[i] = x at *
      obtain ⟨path, kind, mode, time, tgt, beg, size⟩ := x
      obtain ⟨d0, d1, d2, d3, d4, d5, d6⟩ := RdA.cells7 d
      simp only [okI] at d0 d1 d2 d3 d4 d5 d6 Hsn hz
      obtain ⟨z0, z1⟩ := hz
      clear d
      have hb1 := hb.alloc hb.size (.cells #[.string (str path), .int .i64 kind, .int .i64 mode, .int .i64 time, .string (str tgt), .int .i64 beg, .int .i64 size] 71)
      clear hb
      go_wp2
      go_roundg j
      case measure => omega
      case rel => exact ⟨i + 1, by have := Hk.out; omega, rfl, congrArg (Value.int .i64) (by rw [Hsn.out]; rfl), hb1⟩
    · obtain rfl : i = l.length := by omega
      rw [List.take_length]
      have hsz : (l.map (·.path)).length = l.length := by simp
      have P := Lib.hid (fun w1 hr => paths_any A c l hl w1 hr)
      have hxp : ∀ x ∈ l.map (·.path), x.length ≤ 4294967280 := fun x hx => by
        obtain ⟨e, he, rfl⟩ := List.mem_map.1 hx
        exact Hx.out e he
      have S1 := Lib.hid (fun A' c' w1 h1 hr => allstr_any A' c' (l.map (·.path)) (by rw [hsz]; omega) (fun x hx => by have := hxp x hx; omega) w1 h1 hr)
      have S2 := Lib.hid (fun A' c' w1 h1 hr => sorted_any A' c' (l.map (·.path)) (by rw [hsz]; omega) hxp w1 h1 hr)
      have Q1 := Lib.hid (fun w1 hr => all_pure _ run_small (fun e => decide (e.size ≤ 1048576)) A c l (by omega) w1 hr (fun e _ W => small_any e W))
      have Q2 := Lib.hid (fun w1 hr => all_pure _ run_plain plainB A c l (by omega) w1 hr (fun e he W => plain_any e (Ok.out e he) W))
      have hso := Lib.hid (sortedB_iff (l.map (·.path)))
      have hn : (l.length == (l.map (·.path)).length) = true := by rw [hsz]; simp
      have hw := Lib.hid (whyE_eq l)
      obtain ⟨a0, a1⟩ := sumC_range l
      have Ha := Lib.hid (And.intro a0 a1)
      clear hk hsz hxp hn a0 a1
      obtain ⟨z, hzz⟩ : ∃ z, whyE l = z := ⟨_, rfl⟩
      have Hz := Lib.hid hzz
      rw [hzz] at hw
      clear hzz
      generalize sumC l = a at *
      generalize l.all plainB = y4 at *
      generalize l.all (fun e => decide (e.size ≤ 1048576)) = y3 at *
      generalize l.map (·.path) = ps at *
      generalize ps.all okPath = y1 at *
      generalize sortedB ps = y2 at *
      obtain ⟨a0, a1⟩ := Ha.out
      clear Ha
      cases y1 with
      | false =>
        have hz : Hid (z = 9) := Lib.hid (by rw [hw.out]; rfl)
        clear hw
        go_wp2_with fail
        refine (P.out _ (Hr.out _ hb)).mono ?_
        rintro e wz ⟨A1, c1, rfl, k1, r1, b⟩
        replace hb := hb.trans (b.mono hb.size)
        have R1 := Lib.hid (rds_of_rdA r1)
        clear b r1
        go_wp2_with fail
        refine (S1.out _ _ _ (Hh.out _ hb) R1.out).mono ?_
        rintro e wz ⟨rfl, b⟩
        replace hb := hb.trans (b.mono hb.size)
        clear b
        go_wp2
        go_ret
        exact ⟨by rw [Hz.out, hz.out]; rfl, hb⟩
      | true =>
      have hw2 : z = if y2 = false then 10 else if 1024 < l.length ∨ 4194304 < a ∨ y3 = false then 7 else if y4 = false then 1 else 0 := by rw [hw.out]; rfl
      replace hw := Lib.hid hw2
      clear hw2
      cases y2 with
      | false =>
        have hz : Hid (z = 10) := Lib.hid (by rw [hw.out]; rfl)
        clear hw
        go_wp2_with fail
        refine (P.out _ (Hr.out _ hb)).mono ?_
        rintro e wz ⟨A1, c1, rfl, k1, r1, b⟩
        replace hb := hb.trans (b.mono hb.size)
        have R1 := Lib.hid (rds_of_rdA r1)
        clear b r1
        go_wp2_with fail
        refine (S1.out _ _ _ (Hh.out _ hb) R1.out).mono ?_
        rintro e wz ⟨rfl, b⟩
        replace hb := hb.trans (b.mono hb.size)
        clear b
        go_wp2_with fail
        refine (P.out _ (Hr.out _ hb)).mono ?_
        rintro e wz ⟨A1, c1, rfl, k1, r1, b⟩
        replace hb := hb.trans (b.mono hb.size)
        have R1 := Lib.hid (rds_of_rdA r1)
        clear b r1
        go_wp2_with fail
        refine (S2.out _ _ _ (Hh.out _ hb) R1.out).mono ?_
        rintro e wz ⟨r, rfl, hr, b⟩
        obtain rfl : r = false := by
          cases r
          · rfl
          · exact absurd (hso.out.2 (hr.1 rfl)) (by simp)
        replace hb := hb.trans (b.mono hb.size)
        clear b hr
        go_wp2
        go_ret
        exact ⟨by rw [Hz.out, hz.out]; rfl, hb⟩
      | true =>
      have hw2 : z = if 1024 < l.length ∨ 4194304 < a ∨ y3 = false then 7 else if y4 = false then 1 else 0 := by rw [hw.out]; rfl
      replace hw := Lib.hid hw2
      clear hw2
      go_wp2_with fail
      refine (P.out _ (Hr.out _ hb)).mono ?_
      rintro e wz ⟨A1, c1, rfl, k1, r1, b⟩
      replace hb := hb.trans (b.mono hb.size)
      have R1 := Lib.hid (rds_of_rdA r1)
      clear b r1
      go_wp2_with fail
      refine (S1.out _ _ _ (Hh.out _ hb) R1.out).mono ?_
      rintro e wz ⟨rfl, b⟩
      replace hb := hb.trans (b.mono hb.size)
      clear b
      go_wp2_with fail
      refine (P.out _ (Hr.out _ hb)).mono ?_
      rintro e wz ⟨A1, c1, rfl, k1, r1, b⟩
      replace hb := hb.trans (b.mono hb.size)
      have R1 := Lib.hid (rds_of_rdA r1)
      clear b r1
      go_wp2_with fail
      refine (S2.out _ _ _ (Hh.out _ hb) R1.out).mono ?_
      rintro e wz ⟨r, rfl, hr, b⟩
      obtain rfl : r = true := hr.2 (hso.out.1 (by simp))
      replace hb := hb.trans (b.mono hb.size)
      clear b hr
      by_cases h1 : (1024 : Int) < (l.length : Int)
      · have hz : Hid (z = 7) := Lib.hid (by rw [hw.out, if_pos (.inl (by omega))])
        clear hw
        go_wp2
        go_ret
        exact ⟨by rw [Hz.out, hz.out]; rfl, hb⟩
      by_cases h2 : 4194304 < a
      · have hz : Hid (z = 7) := Lib.hid (by rw [hw.out, if_pos (.inr (.inl h2))])
        clear hw
        go_wp2
        go_ret
        exact ⟨by rw [Hz.out, hz.out]; rfl, hb⟩
      cases y3 with
      | false =>
        have hz : Hid (z = 7) := Lib.hid (by rw [hw.out, if_pos (.inr (.inr rfl))])
        clear hw
        go_wp2_with fail
        refine (Q1.out _ (Hr.out _ hb)).mono ?_
        rintro e wz ⟨rfl, b⟩
        replace hb := hb.trans (b.mono hb.size)
        clear b
        go_wp2
        go_ret
        exact ⟨by rw [Hz.out, hz.out]; rfl, hb⟩
      | true =>
      have hw2 : z = if y4 = false then 1 else 0 := by rw [hw.out, if_neg (by simp; omega)]
      replace hw := Lib.hid hw2
      clear hw2
      cases y4 with
      | false =>
        have hz : Hid (z = 1) := Lib.hid (by rw [hw.out]; rfl)
        clear hw
        go_wp2_with fail
        refine (Q1.out _ (Hr.out _ hb)).mono ?_
        rintro e wz ⟨rfl, b⟩
        replace hb := hb.trans (b.mono hb.size)
        clear b
        go_wp2_with fail
        refine (Q2.out _ (Hr.out _ hb)).mono ?_
        rintro e wz ⟨rfl, b⟩
        replace hb := hb.trans (b.mono hb.size)
        clear b
        go_wp2
        go_ret
        exact ⟨by rw [Hz.out, hz.out]; rfl, hb⟩
      | true =>
        have hz : Hid (z = 0) := Lib.hid (by rw [hw.out]; rfl)
        clear hw
        go_wp2_with fail
        refine (Q1.out _ (Hr.out _ hb)).mono ?_
        rintro e wz ⟨rfl, b⟩
        replace hb := hb.trans (b.mono hb.size)
        clear b
        go_wp2_with fail
        refine (Q2.out _ (Hr.out _ hb)).mono ?_
        rintro e wz ⟨rfl, b⟩
        replace hb := hb.trans (b.mono hb.size)
        clear b
        go_wp2
        go_ret
        exact ⟨by rw [Hz.out, hz.out]; rfl, hb⟩
end Go.Proofs.YtmppagiaonbggaaDoor

/- Package entry: the walks over Of, Right and Fine. -/
namespace Go.Proofs.YtmppagiaonbggaaDoor
set_option linter.unusedVariables false
set_option linter.unusedSimpArgs false
set_option maxRecDepth 100000
open Go.RowKit

/-- What a call leaves that returns a slice and an error. -/
def Ret2A {α : Type} (k : Nat) (cs : α → List Value) (w : World) (l : List α) (z : Int) (e : Ending) (w' : World) : Prop := ∃ A c, e = .returned (.tuple #[.slice A l.length c, .int .i64 z]) ∧ (l.length ≤ c ∧ c ≤ 9223372036854775807) ∧ RdA k cs w' A l ∧ Below w.heap.size w w'
theorem Ret2A.mk {α : Type} {k : Nat} {cs : α → List Value} {w w' : World} {l : List α} {z : Int} {e : Ending} {A : Option Addr} {n c : Nat} {z' : Int} (he : e = .returned (.tuple #[.slice A n c, .int .i64 z'])) (hn : n = l.length) (hz : z' = z) (hc : n ≤ c ∧ c ≤ 9223372036854775807) (hr : RdA k cs w' A l) (hb : Below w.heap.size w w') : Ret2A k cs w l z e w' := ⟨A, c, by rw [he, hn, hz], by rw [← hn]; exact hc, hr, hb⟩

/-- What every file of Go is. -/
structure Fi.ok (f : Fi) : Prop where
  path : f.path.length ≤ 4294967280
  kind : okI f.kind
  mode : okI f.mode
  time : okI f.time
  tgt : f.tgt.length ≤ 9223372036854775807
theorem entsFrom_ok : ∀ (l : List Fi) (a : Int), (∀ f ∈ l, f.ok) → 0 ≤ a → a + (dataLen l : Int) ≤ 4294967296 → ∀ e ∈ entsFrom a l, e.ok ∧ e.path.length ≤ 4294967280
  | [], _, _, _, _ => fun e he => by cases he
  | f :: l, a, h, h0, h1 => fun e he => by
    have hd : dataLen (f :: l) = f.data.length + dataLen l := rfl
    have hf := h f List.mem_cons_self
    unfold entsFrom at he
    rcases List.mem_cons.1 he with rfl | he
    · exact ⟨⟨by have := hf.path; simp only; omega, hf.kind, hf.mode, hf.time, hf.tgt, ⟨by simp only; omega, by simp only; omega⟩, ⟨by simp only; omega, by simp only; omega⟩⟩, hf.path⟩
    · exact entsFrom_ok l _ (fun g hg => h g (List.mem_cons_of_mem _ hg)) (by omega) (by omega) e he
theorem ents_ok {l : List Fi} (h : ∀ f ∈ l, f.ok) (hs : dataLen l ≤ 4294967296) : ∀ e ∈ ents l, e.ok ∧ e.path.length ≤ 4294967280 := entsFrom_ok l 0 h (Int.le_refl _) (by omega)
def ofE (l : List Fi) : List En := if whyE (ents l) = 0 then ents l else []

set_option maxHeartbeats 1600000 in
theorem ofE_any (A : Option Addr) (c : Nat) (l : List (Fi × Value)) (hl : l.length ≤ 4294967296) (hs : dataLen (l.map (·.1)) ≤ 4294967296) (ok : ∀ x ∈ l, x.1.ok) (w : World) (h : Sh w) (hr : RdF w A l) :
    Calls Tryd.prog 17 #[.slice A l.length c] w (Ret2A 7 enL w (ofE (l.map (·.1))) (whyE (ents (l.map (·.1))))) := by
  have hb := Below.refl w.heap.size w
  have Hh := Lib.hid (fun w1 (b : Below w.heap.size w w1) => sh_below h b)
  have hk := ents_ok (l := l.map (·.1)) (by intro f hf; obtain ⟨x, hx, rfl⟩ := List.mem_map.1 hf; exact ok x hx) hs
  have hel : (ents (l.map (·.1))).length = l.length := by unfold ents; rw [entsFrom_length]; simp
  have E1 := Lib.hid (entries_any A c l hl hs w hr)
  have W1 := Lib.hid (fun A' c' w1 h1 hr => why_any A' c' (ents (l.map (·.1))) (by omega) (fun e he => (hk e he).1) (fun e he => (hk e he).2) w1 h1 hr)
  have Ho := Lib.hid (show ofE (l.map (·.1)) = if whyE (ents (l.map (·.1))) = 0 then ents (l.map (·.1)) else [] from rfl)
  clear hk hel h hr
  generalize ofE (l.map (·.1)) = o at *
  generalize ents (l.map (·.1)) = es at *
  generalize whyE es = z at *
  by_cases h0 : z = 0
  · subst h0
    obtain rfl : o = es := Ho.out
    go_enter Tryd.func17, Tryd.ntmps17
    go_wp2_with fail
    refine E1.out.mono ?_
    rintro e w1 ⟨A1, c1, rfl, k1, r1, b1⟩
    have R1 := Lib.hid r1
    clear r1
    go_wp2_with fail
    refine (W1.out _ _ _ (Hh.out _ b1) R1.out).mono ?_
    rintro e w2 ⟨rfl, b2⟩
    have R2 := Lib.hid (R1.out.below b2)
    have hb2 := b1.trans (b2.mono b1.size)
    clear b1 b2
    go_wp2
    go_ret2
    exact Ret2A.mk rfl rfl rfl k1 R2.out hb2
  · obtain rfl : o = [] := by rw [Ho.out, if_neg h0]
    have h0' : (z == 0) = false := by simpa using h0
    go_enter Tryd.func17, Tryd.ntmps17
    go_wp2_with fail
    refine E1.out.mono ?_
    rintro e w1 ⟨A1, c1, rfl, k1, r1, b1⟩
    have R1 := Lib.hid r1
    clear r1
    go_wp2_with fail
    refine (W1.out _ _ _ (Hh.out _ b1) R1.out).mono ?_
    rintro e w2 ⟨rfl, b2⟩
    have hb2 := b1.trans (b2.mono b1.size)
    clear b1 b2
    go_wp2
    go_ret2
    exact Ret2A.mk rfl rfl rfl cap0 RdA.nil hb2

theorem rightE_any (A : Option Addr) (c : Nat) (l : List (Fi × Value)) (hl : l.length ≤ 4294967296) (hs : dataLen (l.map (·.1)) ≤ 4294967296) (ok : ∀ x ∈ l, x.1.ok) (w : World) (h : Sh w) (hr : RdF w A l) :
    Calls Tryd.prog 16 #[.slice A l.length c] w fun e w' => e = .returned (.bool (whyE (ents (l.map (·.1))) == 0)) ∧ Below w.heap.size w w' := by
  have hb := Below.refl w.heap.size w
  have Hh := Lib.hid (fun w1 (b : Below w.heap.size w w1) => sh_below h b)
  have hk := ents_ok (l := l.map (·.1)) (by intro f hf; obtain ⟨x, hx, rfl⟩ := List.mem_map.1 hf; exact ok x hx) hs
  have hel : (ents (l.map (·.1))).length = l.length := by unfold ents; rw [entsFrom_length]; simp
  have E1 := Lib.hid (entries_any A c l hl hs w hr)
  have W1 := Lib.hid (fun A' c' w1 h1 hr => why_any A' c' (ents (l.map (·.1))) (by omega) (fun e he => (hk e he).1) (fun e he => (hk e he).2) w1 h1 hr)
  clear hk hel h hr
  generalize ents (l.map (·.1)) = es at *
  generalize whyE es = z at *
  go_enter Tryd.func16, Tryd.ntmps16
  go_wp2_with fail
  refine E1.out.mono ?_
  rintro e w1 ⟨A1, c1, rfl, k1, r1, b1⟩
  have R1 := Lib.hid r1
  clear r1
  go_wp2_with fail
  refine (W1.out _ _ _ (Hh.out _ b1) R1.out).mono ?_
  rintro e w2 ⟨rfl, b2⟩
  have hb2 := b1.trans (b2.mono b1.size)
  clear b1 b2
  go_wp2
  go_ret
  exact ⟨rfl, hb2⟩

/-! Fine -/
def begB : Int → List En → Bool
  | _, [] => true
  | a, e :: l => (e.beg == a) && begB (a + e.size) l
def fineB (l : List En) : Bool := (whyE l == 0) && begB 0 l
def sumS (l : List En) : Int := (l.map (·.size)).sum
theorem sumS_snoc (l : List En) (e : En) : sumS (l ++ [e]) = sumS l + e.size := by simp [sumS]
theorem begB_index : ∀ (l : List En) (a : Int), begB a l = true ↔ ∀ i (h : i < l.length), l[i].beg = a + sumS (l.take i)
  | [], a => by simp [begB]
  | e :: l, a => by
    have ih := begB_index l (a + e.size)
    unfold begB
    rw [Bool.and_eq_true, ih, beq_iff_eq]
    constructor
    · rintro ⟨h1, h2⟩ i hi
      cases i with
      | zero => simpa [sumS] using h1
      | succ i =>
        have := h2 i (by simpa using hi)
        simp only [List.getElem_cons_succ, List.take_succ_cons]
        rw [this]; simp [sumS]; omega
    · intro h
      refine ⟨by have := h 0 (by simp); simpa [sumS] using this, fun i hi => ?_⟩
      have := h (i + 1) (by simpa using hi)
      simp only [List.getElem_cons_succ, List.take_succ_cons] at this
      rw [this]; simp [sumS]; omega
theorem whyE_zero {l : List En} (h : whyE l = 0) : sortedB (l.map (·.path)) = true ∧ l.length ≤ 1024 ∧ sumC l ≤ 4194304 ∧ ∀ e ∈ l, plainP e := by
  rw [whyE_eq] at h
  by_cases h1 : (l.map (·.path)).all okPath = false
  · rw [if_pos h1] at h; cases h
  rw [if_neg h1] at h
  by_cases h2 : sortedB (l.map (·.path)) = false
  · rw [if_pos h2] at h; cases h
  rw [if_neg h2] at h
  by_cases h3 : 1024 < l.length ∨ 4194304 < sumC l ∨ l.all (fun e => decide (e.size ≤ 1048576)) = false
  · rw [if_pos h3] at h; cases h
  rw [if_neg h3] at h
  by_cases h4 : l.all plainB = false
  · rw [if_pos h4] at h; cases h
  refine ⟨by simpa using h2, by omega, by omega, fun e he => ?_⟩
  have h5 : l.all plainB = true := by simpa using h4
  have := List.all_eq_true.1 h5 e he
  exact of_decide_eq_true this
theorem sumS_range : ∀ {l : List En}, (∀ e ∈ l, plainP e) → 0 ≤ sumS l ∧ sumS l ≤ 1048576 * l.length
  | [], _ => by simp [sumS]
  | e :: l, h => by
    have ih := sumS_range (l := l) (fun x hx => h x (List.mem_cons_of_mem _ hx))
    have he := h e List.mem_cons_self
    have : sumS (e :: l) = e.size + sumS l := by simp [sumS]
    obtain ⟨_, _, _, _, h5, h6, _⟩ := he
    rw [this, List.length_cons]
    omega

theorem fine1_any (e : En) (g : Nat) (a : Int) (ha : 0 ≤ a) (ha' : a ≤ 4294967296) (he : 0 ≤ e.size) (he' : e.size ≤ 4294967296) (B : Nat) (w : World) (hg : Own B (Bk g 3 #[.int .i64 a] * Emp) w) :
    Calls Tryd.prog 60 #[.agg (enL e).toArray, .pointer (some ⟨g, 0, none⟩)] w fun x w' => x = .returned (.bool (e.beg == a)) ∧ Own B (Bk g 3 #[.int .i64 (a + e.size)] * Emp) w' ∧ Below B w w' := by
  obtain ⟨path, kind, mode, time, tgt, beg, size⟩ := e
  simp only at he he'
  simp only [enL]
  have hk := hg.bk
  have hB : B ≤ w.heap.size := by omega
  have o1 := hg.alloc_keep hB (.cells #[.string (str path), .int .i64 kind, .int .i64 mode, .int .i64 time, .string (str tgt), .int .i64 beg, .int .i64 size] 71)
  have hb1 := (Below.refl B w).alloc hB (.cells #[.string (str path), .int .i64 kind, .int .i64 mode, .int .i64 time, .string (str tgt), .int .i64 beg, .int .i64 size] 71)
  have c0 := o1.cell 0
  have f0 := o1.unfrozen 0
  have o2 := o1.set (Nat.le_trans hB hb1.size) 0 (.int .i64 (a + size))
  have hb2 := hb1.trans (o1.below_set 0 (.int .i64 (a + size)))
  have hne : ¬ w.heap.size = g := by omega
  have hne2 : ¬ g = w.heap.size := by omega
  clear hg hk o1
  go_enter Tryd.func60, Tryd.ntmps60
  go_wp2
  go_ret
  exact ⟨rfl, o2, hb2⟩

set_option maxHeartbeats 1600000 in
theorem fine_any (A : Option Addr) (c : Nat) (l : List En) (hl : l.length ≤ 4294967296) (ok : ∀ e ∈ l, e.ok) (hx : ∀ e ∈ l, e.path.length ≤ 4294967280) (w : World) (h : Sh w) (hr : RdA 7 enL w A l) :
    Calls Tryd.prog 34 #[.slice A l.length c] w fun e w' => e = .returned (.bool (fineB l)) ∧ Below w.heap.size w w' := by
  have hb := Below.refl w.heap.size w
  have Hr := Lib.hid (fun w1 (b : Below w.heap.size w w1) => hr.below b)
  have Hr0 := Lib.hid hr
  have W1 := Lib.hid (why_any A c l hl ok hx w h hr)
  have Hf := Lib.hid (show fineB l = ((whyE l == 0) && begB 0 l) from rfl)
  by_cases h0 : whyE l = 0
  · obtain ⟨_, hl2, _, hp⟩ := whyE_zero h0
    have Hp := Lib.hid hp
    have hB0 : Hid (∀ r, (r = true ↔ ∀ i, i < l.length → ((l.getD i default).beg == sumS (l.take i)) = true) → r = fineB l) := Lib.hid (fun r hr => by
      rw [Hf.out, h0, Bool.eq_iff_iff, hr]
      simp only [beq_self_eq_true, Bool.true_and]
      rw [begB_index]
      constructor
      · intro h i hi
        have := h i hi
        rw [beq_iff_eq] at this
        rw [Int.zero_add, ← this]; simp [hi]
      · intro h i hi
        have := h i hi
        rw [Int.zero_add] at this
        rw [beq_iff_eq, ← this]; simp [hi])
    have A1 := Lib.hid (fun (g : Nat) (W : World) (b : Below w.heap.size w W) (ho : Own w.heap.size (Bk g 3 #[.int .i64 0] * Emp) W) =>
      all_any 60 (fun _ _ => by kernel_rfl) #[.pointer (some ⟨g, 0, none⟩)] (fun i W => Own w.heap.size (Bk g 3 #[.int .i64 (sumS (l.take i))] * Emp) W) (fun i => (l.getD i default).beg == sumS (l.take i)) A c l (by omega) w W b Hr0.out (by simpa [sumS] using ho)
        (fun i W o h => h.alloc_keep (by have := h.bk; omega) o) (fun i hi W hb hI => by
          have hg : l.getD i default = l[i] := by simp [hi]
          have hs1 := sumS_range (l := l.take i) (fun e he => Hp.out e (List.mem_of_mem_take he))
          have hz := Hp.out _ (List.getElem_mem hi)
          obtain ⟨_, _, _, _, h5, h6, _⟩ := hz
          have hlt : (l.take i).length ≤ 1024 := by rw [List.length_take]; omega
          rw [hg]
          refine (fine1_any l[i] g (sumS (l.take i)) hs1.1 (by omega) h5 (by omega) w.heap.size W hI).mono ?_
          rintro e W' ⟨rfl, ho, hb'⟩
          refine ⟨rfl, fun _ => ?_, hb'⟩
          rw [List.take_succ_eq_append_getElem hi, sumS_snoc]
          exact ho))
    rw [h0] at W1
    clear h hr h0 hl2 hp Hf Hp
    go_enter Tryd.func34, Tryd.ntmps34
    go_wp2_with fail
    refine W1.out.mono ?_
    rintro e w1 ⟨rfl, b1⟩
    have o1 := (Own.start w.heap.size w1).new b1.size 3 #[.int .i64 0]
    have hb1 := b1.alloc b1.size (.cells #[.int .i64 0] 3)
    clear b1
    go_wp2_with fail
    refine (A1.out _ _ hb1 o1).mono ?_
    rintro e w2 ⟨rfl, b2⟩
    have hf2 := hB0.out _ allB_true
    rw [hf2]
    clear hB0 hf2 A1 o1 hb1
    go_wp2
    go_ret
    exact ⟨rfl, b2⟩
  · have h0' : (whyE l == 0) = false := by simpa using h0
    have Hf2 : Hid (fineB l = false) := Lib.hid (by rw [Hf.out, h0']; rfl)
    clear h hr Hf h0
    generalize whyE l = z at *
    have h0 : ¬ z = 0 := by simpa using h0'
    go_enter Tryd.func34, Tryd.ntmps34
    go_wp2_with fail
    refine W1.out.mono ?_
    rintro e w1 ⟨rfl, b1⟩
    go_wp2
    go_ret
    exact ⟨by rw [Hf2.out]; rfl, b1⟩
end Go.Proofs.YtmppagiaonbggaaDoor

/- Package entry: the walks over Total, Find and Within. -/
namespace Go.Proofs.YtmppagiaonbggaaDoor
set_option linter.unusedVariables false
set_option linter.unusedSimpArgs false
set_option maxRecDepth 100000
open Go.RowKit

theorem fineB_true {l : List En} (h : fineB l = true) : whyE l = 0 ∧ ∀ i (hi : i < l.length), l[i].beg = sumS (l.take i) := by
  unfold fineB at h
  rw [Bool.and_eq_true, beq_iff_eq, begB_index] at h
  exact ⟨h.1, fun i hi => by have := h.2 i hi; rw [Int.zero_add] at this; exact this⟩
theorem fine_bounds {l : List En} (h : fineB l = true) (i : Nat) (hi : i < l.length) : 0 ≤ l[i].beg ∧ l[i].beg ≤ 1073741824 ∧ 0 ≤ l[i].size ∧ l[i].size ≤ 1048576 := by
  obtain ⟨h1, h2⟩ := fineB_true h
  obtain ⟨_, hl, _, hp⟩ := whyE_zero h1
  have hs := sumS_range (l := l.take i) (fun e he => hp e (List.mem_of_mem_take he))
  have hlt : (l.take i).length ≤ 1024 := by rw [List.length_take]; omega
  obtain ⟨_, _, _, _, h5, h6, _⟩ := hp _ (List.getElem_mem hi)
  rw [h2 i hi]
  exact ⟨hs.1, by omega, h5, h6⟩
def totalE (l : List En) : Int := if fineB l then sumS l else 0
theorem totalE_last {l : List En} {m : Nat} (h : fineB l = true) (hm : l.length = m + 1) : totalE l = (l[m]'(by omega)).beg + (l[m]'(by omega)).size := by
  unfold totalE
  rw [if_pos h, (fineB_true h).2 m (by omega), ← sumS_snoc, ← List.take_succ_eq_append_getElem (by omega), ← hm, List.take_length]

set_option maxHeartbeats 1600000 in
theorem total_any (A : Option Addr) (c : Nat) (l : List En) (hl : l.length ≤ 4294967296) (ok : ∀ e ∈ l, e.ok) (hx : ∀ e ∈ l, e.path.length ≤ 4294967280) (w : World) (h : Sh w) (hr : RdA 7 enL w A l) :
    Calls Tryd.prog 25 #[.slice A l.length c] w fun e w' => e = .returned (.int .i64 (totalE l)) ∧ Below w.heap.size w w' := by
  have F := Lib.hid (fine_any A c l hl ok hx w h hr)
  have Hr := Lib.hid (fun w1 (b : Below w.heap.size w w1) => hr.below b)
  have n1 : (l.length : Int) ≤ 4294967296 := by omega
  cases hf : fineB l with
  | false =>
    rw [hf] at F
    have Ht : Hid (totalE l = 0) := Lib.hid (by unfold totalE; rw [hf]; rfl)
    clear hf h hr
    by_cases h0 : l.length = 0
    · have h0' : ((l.length : Int) == 0) = true := by rw [h0]; rfl
      have h0n : (l.length == 0) = true := by simpa using h0
      clear h0
      go_enter Tryd.func25, Tryd.ntmps25
      go_wp2
      go_ret
      exact ⟨by rw [Ht.out]; rfl, Below.refl _ _⟩
    · have h0' : ((l.length : Int) == 0) = false := by rw [beq_eq_false_iff_ne]; omega
      have h0n : (l.length == 0) = false := by simpa using h0
      go_enter Tryd.func25, Tryd.ntmps25
      go_wp2_with fail
      refine F.out.mono ?_
      rintro e w1 ⟨rfl, b1⟩
      go_wp2
      go_ret
      exact ⟨by rw [Ht.out]; rfl, b1⟩
  | true =>
    rw [hf] at F
    by_cases h0 : l.length = 0
    · have h0' : ((l.length : Int) == 0) = true := by rw [h0]; rfl
      have h0n : (l.length == 0) = true := by simpa using h0
      have Ht : Hid (totalE l = 0) := Lib.hid (by
        unfold totalE; rw [hf]
        obtain rfl := List.eq_nil_of_length_eq_zero h0
        rfl)
      clear h0 hf h hr
      go_enter Tryd.func25, Tryd.ntmps25
      go_wp2
      go_ret
      exact ⟨by rw [Ht.out]; rfl, Below.refl _ _⟩
    · obtain ⟨m, hm⟩ : ∃ m, l.length = m + 1 := ⟨l.length - 1, by omega⟩
      have Ht := Lib.hid (totalE_last hf hm)
      have hbd := fine_bounds hf m (by omega)
      have h0' : ((m : Int) + 1 == 0) = false := by simp; omega
      have hm0 : (0 : Int) ≤ (m : Int) := by omega
      have hm1 : (m : Int) < (m : Int) + 1 := by omega
      have hm2 : (m : Int) ≤ 4294967296 := by omega
      have Hr2 := Lib.hid (fun w1 b => Hr.out w1 b m (by omega))
      rw [hm] at F n1 ⊢
      clear hf h hr h0 Hr
      generalize l[m] = x at *
      clear hm
      obtain ⟨path, kind, mode, time, tgt, beg, size⟩ := x
      simp only at hbd Ht
      obtain ⟨z1, z2, z3, z4⟩ := hbd
      go_enter Tryd.func25, Tryd.ntmps25
      go_wp2_with fail
      refine F.out.mono ?_
      rintro e w1 ⟨rfl, b1⟩
      obtain ⟨b, off, rfl, q, d⟩ := Hr2.out w1 b1
      obtain ⟨d0, d1, d2, d3, d4, d5, d6⟩ := RdA.cells7 d
      simp only at d0 d1 d2 d3 d4 d5 d6
      clear d Hr2
      have hb1 := b1.alloc b1.size (.cells #[.string (str path), .int .i64 kind, .int .i64 mode, .int .i64 time, .string (str tgt), .int .i64 beg, .int .i64 size] 71)
      go_wp2
      go_ret
      exact ⟨by rw [Ht.out]; rfl, hb1⟩

def findE (l : List En) (p : List UInt8) : Option En := l.find? (fun e => decide (e.path = p))
def FindP (w : World) (r : Option En) (e : Ending) (w' : World) : Prop := e = .returned (.tuple #[.agg (enL (r.getD default)).toArray, .bool r.isSome]) ∧ Below w.heap.size w w'

def withinE (l : List En) (n : Int) : List En := if fineB l then l.takeWhile (fun e => decide (e.beg + e.size ≤ n)) else []
theorem takeWhile_take {α : Type} (q : α → Bool) : ∀ (l : List α) (i : Nat), (∀ x ∈ l.take i, q x = true) → l.takeWhile q = l.take i ++ (l.drop i).takeWhile q
  | l, 0, _ => by simp
  | [], i + 1, _ => by simp
  | a :: l, i + 1, h => by
    have h1 : q a = true := h a (by simp)
    rw [List.takeWhile_cons, if_pos h1, takeWhile_take q l i (fun x hx => h x (by simp [hx]))]
    simp

end Go.Proofs.YtmppagiaonbggaaDoor

/- The walk over the reference's Why. -/
namespace Go.Proofs.YtmppagiaonbggaaDoor
set_option linter.unusedVariables false
set_option linter.unusedSimpArgs false
set_option maxRecDepth 100000
open Go.RowKit

def sumM (l : List En) : Int := (l.map fun e => max e.size 0).sum
theorem sumM_snoc (l : List En) (e : En) : sumM (l ++ [e]) = sumM l + max e.size 0 := by simp [sumM]
theorem sumM_nonneg (l : List En) : 0 ≤ sumM l := by
  induction l with
  | nil => simp [sumM]
  | cons e l ih => simp only [sumM, List.map_cons, List.sum_cons] at ih ⊢; omega
theorem sumM_le {l : List En} {k : Int} (hk : 0 ≤ k) (h : ∀ e ∈ l, e.size ≤ k) : sumM l ≤ k * l.length := by
  induction l with
  | nil => simp [sumM]
  | cons e l ih =>
    have h1 := h e List.mem_cons_self
    have h2 := ih (fun x hx => h x (List.mem_cons_of_mem _ hx))
    simp only [sumM, List.map_cons, List.sum_cons, List.length_cons] at h2 ⊢
    have : k * ((l.length + 1 : Nat) : Int) = k * l.length + k := by rw [Int.natCast_add, Int.mul_add]; simp
    rw [this]; omega
theorem sumC_min (l : List En) : sumC l = min (sumM l) 4194305 := by
  have : ∀ n, ∀ l : List En, l.length = n → sumC l = min (sumM l) 4194305 := by
    intro n
    induction n with
    | zero => intro l hl; obtain rfl := List.eq_nil_of_length_eq_zero hl; decide
    | succ n ih =>
      intro l hl
      rcases List.eq_nil_or_concat l with rfl | ⟨m, e, rfl⟩
      · simp at hl
      · rw [List.concat_eq_append] at hl ⊢
        have h1 := ih m (by simp at hl; omega)
        have h2 := sumM_nonneg m
        rw [sumC_snoc, sumM_snoc, h1]
        unfold capA
        omega
  exact this _ l rfl
theorem why_path {l : List En} {i : Nat} (hi : i < l.length) (h : okPath l[i].path = false) : whyE l = 9 := by
  rw [whyE_eq, if_pos]
  rw [List.all_eq_false]
  exact ⟨l[i].path, List.mem_map_of_mem (List.getElem_mem hi), by rw [h]; simp⟩
theorem all_path {l : List En} (h : ∀ i (hi : i < l.length), okPath l[i].path = true) : (l.map (·.path)).all okPath = true := by
  rw [List.all_eq_true]
  intro x hx
  obtain ⟨e, he, rfl⟩ := List.mem_map.1 hx
  obtain ⟨i, hi, rfl⟩ := List.mem_iff_getElem.1 he
  exact h i hi
theorem why_twice {l : List En} (h : ∀ i (hi : i < l.length), okPath l[i].path = true) {i : Nat} (hi : i + 1 < l.length) (hc : ¬ cmpL (psplit l[i].path) (psplit l[i + 1].path) < 0) : whyE l = 10 := by
  rw [whyE_eq, if_neg (by rw [all_path h]; simp), if_pos]
  cases hs : sortedB (l.map (·.path)) with
  | false => rfl
  | true =>
    have := ((sortedB_iff _).1 hs (i + 1) (by simpa using hi)).2 (by omega)
    simp at this hc
    omega
theorem why_rest {l : List En} (h : ∀ i (hi : i < l.length), okPath l[i].path = true) (h2 : ∀ i (hi : i + 1 < l.length), cmpL (psplit l[i].path) (psplit l[i + 1].path) < 0) :
    whyE l = if 1024 < l.length ∨ 4194304 < sumM l ∨ ¬ (∀ e ∈ l, e.size ≤ 1048576) then 7 else if ¬ (∀ e ∈ l, plainP e) then 1 else 0 := by
  have hs : sortedB (l.map (·.path)) = true := by
    rw [sortedB_iff]
    intro i hi
    have hi' : i < l.length := by simpa using hi
    refine ⟨by simpa using h i hi', fun h0 => ?_⟩
    obtain ⟨j, rfl⟩ : ∃ j, i = j + 1 := ⟨i - 1, by omega⟩
    simpa using h2 j hi'
  rw [whyE_eq, if_neg (by rw [all_path h]; simp), if_neg (by rw [hs]; simp), sumC_min]
  have e1 : (1024 < l.length ∨ 4194304 < min (sumM l) 4194305 ∨ l.all (fun e => decide (e.size ≤ 1048576)) = false) ↔ (1024 < l.length ∨ 4194304 < sumM l ∨ ¬ (∀ e ∈ l, e.size ≤ 1048576)) := by
    have : l.all (fun e => decide (e.size ≤ 1048576)) = false ↔ ¬ (∀ e ∈ l, e.size ≤ 1048576) := by
      rw [← Bool.not_eq_true, List.all_eq_true]; simp
    rw [this]
    constructor
    · rintro (h | h | h)
      · exact .inl h
      · exact .inr (.inl (by omega))
      · exact .inr (.inr h)
    · rintro (h | h | h)
      · exact .inl h
      · exact .inr (.inl (by omega))
      · exact .inr (.inr h)
  have e2 : l.all plainB = false ↔ ¬ (∀ e ∈ l, plainP e) := by
    rw [← Bool.not_eq_true, List.all_eq_true]
    simp [plainB]
  simp only [e1, e2]

set_option maxRecDepth 100000 in
set_option maxHeartbeats 12800000 in
theorem refwhy_any (A : Option Addr) (c : Nat) (l : List En) (hl : l.length ≤ 4294967296) (ok : ∀ e ∈ l, e.ok) (hx : ∀ e ∈ l, e.path.length ≤ 4294967280) (w : World) (hr : RdA 7 enL w A l) :
    Calls Tryd.prog 13 #[.slice A l.length c] w fun e w' => e = .returned (.int .i64 (whyE l)) ∧ Below w.heap.size w w' := by
  have hb := Below.refl w.heap.size w
  have Hr := Lib.hid (fun w1 (b : Below w.heap.size w w1) => hr.below b)
  have Ok := Lib.hid ok
  have Hx := Lib.hid hx
  have n1 : (l.length : Int) ≤ 4294967296 := by omega
  clear hr ok hx
  go_enter Tryd.func13, Tryd.ntmps13
  go_wp2
  go_loopg [3] l.length (fun k v wr => ∃ i : Nat, k + i = l.length ∧ v = .int .i64 i ∧ Below w.heap.size w wr ∧ Hid (∀ j (h : j < l.length), j < i → okPath l[j].path = true))
  case atStart => exact ⟨0, by omega, rfl, hb, Lib.hid (fun j h h2 => absurd h2 (Nat.not_lt_zero _))⟩
  case round =>
    clear hb
    obtain ⟨i, hk, rfl, hb, hp⟩ := hrel
    by_cases hlt : (i : Int) < (l.length : Int)
    · obtain ⟨j, rfl⟩ : ∃ j, gk = j + 1 := ⟨gk - 1, by omega⟩
      have hil : i < l.length := by omega
      have i0' : (0 : Int) ≤ (i : Int) := by omega
      obtain ⟨b, off, rfl, q, d⟩ := Hr.out _ hb i hil
      have Hk := Lib.hid hk
      have d0 := d 0 _ rfl
      rw [Nat.add_zero] at d0
      have R := Lib.hid (fun w1 => refright_any (str l[i].path) (by have := Hx.out _ (List.getElem_mem hil); show l[i].path.length ≤ _; omega) w1)
      rw [data_str] at R
      have hbad : Hid (okPath l[i].path = false → whyE l = 9) := Lib.hid (fun h => why_path hil h)
      have hp2 : Hid (okPath l[i].path = true → ∀ j (h : j < l.length), j < i + 1 → okPath l[j].path = true) := Lib.hid (fun h j hj hlt => by
        by_cases e : j = i
        · subst e; exact h
        · exact hp.out j hj (by omega))
      clear hk hp d
      generalize okPath l[i].path = y at *
      generalize l[i].path = x at *
      go_wp2_with fail
      refine (R.out _).mono ?_
      rintro e wz ⟨rfl, b⟩
      replace hb := hb.trans (b.mono hb.size)
      clear b d0
      cases y with
      | false =>
        go_wp2
        go_ret
        exact ⟨by rw [hbad.out (by trivial)]; rfl, hb⟩
      | true =>
        go_wp2
        go_roundg j
        case measure => omega
        case rel => exact ⟨i + 1, by have := Hk.out; omega, rfl, hb, Lib.hid (hp2.out (by trivial))⟩
    · have Hp := Lib.hid (fun j (h : j < l.length) => hp.out j h (by omega))
      have Ht := Lib.hid (fun (i : Nat) (hi : i + 1 < l.length) hc => why_twice Hp.out (i := i) hi hc)
      have Hrest := Lib.hid (fun h2 => why_rest (l := l) Hp.out h2)
      clear hk hp
      go_wp2
      go_loopg [4] l.length (fun k v wr => ∃ i : Nat, k + i = l.length ∧ v = .int .i64 ((i : Int) + 1) ∧ Below w.heap.size w wr ∧ Hid (∀ j (h : j + 1 < l.length), j < i → cmpL (psplit l[j].path) (psplit l[j + 1].path) < 0))
      case atStart => exact ⟨0, by omega, rfl, hb, Lib.hid (fun j h h2 => absurd h2 (Nat.not_lt_zero _))⟩
      case round =>
        clear hb hlt
        obtain ⟨i, hk, rfl, hb, hp⟩ := hrel
        by_cases hlt : (i : Int) + 1 < (l.length : Int)
        · obtain ⟨j, rfl⟩ : ∃ j, gk = j + 1 := ⟨gk - 1, by omega⟩
          have hil : i + 1 < l.length := by omega
          have hil0 : i < l.length := by omega
          have i0' : (0 : Int) ≤ (i : Int) := by omega
          have i1' : (0 : Int) ≤ (i : Int) + 1 := by omega
          have i2' : (i : Int) < (l.length : Int) := by omega
          obtain ⟨b, off, rfl, q, d⟩ := Hr.out _ hb i hil0
          obtain ⟨b', off', hA, q', d'⟩ := Hr.out _ hb (i + 1) hil
          injection hA with hA
          injection hA with hA1 hA2
          subst hA1; subst hA2
          have Hk := Lib.hid hk
          clear hk
          have d0 := d 0 _ rfl
          have d1 := d' 0 _ rfl
          rw [Nat.add_zero] at d0 d1
          have R := Lib.hid (fun w1 => refcompare_any (str l[i].path) (str l[i + 1].path) (Hx.out _ (List.getElem_mem hil0)) (Hx.out _ (List.getElem_mem hil)) w1)
          rw [data_str, data_str] at R
          have hbad : Hid (¬ cmpL (psplit l[i].path) (psplit l[i + 1].path) < 0 → whyE l = 10) := Lib.hid (fun h => Ht.out i hil (by omega))
          have hp2 : Hid (cmpL (psplit l[i].path) (psplit l[i + 1].path) < 0 → ∀ j (h : j + 1 < l.length), j < i + 1 → cmpL (psplit l[j].path) (psplit l[j + 1].path) < 0) := Lib.hid (fun h j hj hlt => by
            by_cases e : j = i
            · subst e; exact h
            · exact hp.out j hj (by omega))
          have D0 := Lib.hid d0
          have D1 := Lib.hid d1
          clear hp d d' d0 d1
          generalize cmpL (psplit l[i].path) (psplit l[i + 1].path) = r at *
          generalize l[i].path = x at *
          generalize l[i + 1].path = y at *
          go_wp2
          refine wp_region_mix (Below wr.heap.size wr) [0, 1, 2, 3, 4, 5, 6, 7, 8, 9, 10] [11, 12] mixed (by kernel_rfl) rfl ((Below.refl _ _).drew) ?_
          simp only [List.filterMap_cons, List.filterMap_nil, List.getElem?_toArray, List.getElem?_cons_succ, List.getElem?_cons_zero]
          repeat (first
            | (refine held_val ?_ rfl (fun w1 hS => ?_) ?_
               rotate_left
               · (have k1 := (hS.cell (p := ⟨b, off + i * 7, none⟩) q).trans D0.out; have k2 := (hS.cell (p := ⟨b, off + (i + 1) * 7, none⟩) q').trans D1.out
                  go_simp
                  try go_bits
                  rfl)
               simp only [Act.put, List.setIfInBounds_toArray, List.set_cons_zero, List.set_cons_succ])
            | (refine held_off rfl ?_
               simp only [Act.put, List.setIfInBounds_toArray, List.set_cons_zero, List.set_cons_succ]))
          refine held_nil (fun w4 hS => ?_)
          replace hb := hb.trans (hS.mono hb.size)
          clear hS
          go_wp2_with fail
          refine (R.out _).mono ?_
          rintro e wz ⟨rfl, b⟩
          replace hb := hb.trans (b.mono hb.size)
          clear b
          by_cases hr0 : 0 ≤ r
          · have Hz := Lib.hid (hbad.out (by omega))
            go_wp2
            go_ret
            exact ⟨by rw [Hz.out]; rfl, hb⟩
          · have Hz := Lib.hid (hp2.out (by omega))
            go_wp2
            go_roundg j
            case measure => omega
            case rel => exact ⟨i + 1, by have := Hk.out; omega, rfl, hb, Hz⟩
        · have Hz := Lib.hid (Hrest.out (fun j h => hp.out j h (by omega)))
          clear hk hp Ht Hrest Hp
          by_cases hl2 : (1024 : Int) < (l.length : Int)
          · have Hf : Hid (whyE l = 7) := Lib.hid (by rw [Hz.out, if_pos (.inl (by omega))])
            go_wp2
            go_ret
            exact ⟨by rw [Hf.out]; rfl, hb⟩
          have hl3 : (l.length : Int) ≤ 1024 := by omega
          have Hbig : Hid (∀ e ∈ l, ¬ e.size ≤ 1048576 → whyE l = 7) := Lib.hid (fun e he h => by rw [Hz.out, if_pos (.inr (.inr (fun h' => h (h' e he))))])
          have Hsum : Hid (4194304 < sumM l → whyE l = 7) := Lib.hid (fun h => by rw [Hz.out, if_pos (.inr (.inl h))])
          have Hrest : Hid ((∀ e ∈ l, e.size ≤ 1048576) → sumM l ≤ 4194304 → whyE l = if ¬ (∀ e ∈ l, plainP e) then 1 else 0) := Lib.hid (fun h1 h2 => by rw [Hz.out, if_neg (by rintro (h | h | h); omega; omega; exact h h1)])
          clear Hz hl2
          go_wp2
          go_loopg [5, 6] l.length (fun k a v wr => ∃ i : Nat, k + i = l.length ∧ v = .int .i64 i ∧ a = .int .i64 (sumM (l.take i)) ∧ Below w.heap.size w wr ∧ Hid (∀ e ∈ l.take i, e.size ≤ 1048576))
          case atStart => exact ⟨0, by omega, rfl, rfl, hb, Lib.hid (by simp)⟩
          case round =>
            clear hb hlt
            obtain ⟨i, hk, rfl, rfl, hb, hp⟩ := hrel
            have hs0 := sumM_nonneg (l.take i)
            have hs1 := sumM_le (by omega) hp.out
            have hs2 : (l.take i).length ≤ 1024 := by rw [List.length_take]; omega
            have hs3 : sumM (l.take i) ≤ 1073741824 := by omega
            clear hs1 hs2
            by_cases hlt : (i : Int) < (l.length : Int)
            · obtain ⟨j, rfl⟩ : ∃ j, gk = j + 1 := ⟨gk - 1, by omega⟩
              have hil : i < l.length := by omega
              have i0' : (0 : Int) ≤ (i : Int) := by omega
              obtain ⟨b, off, rfl, q, d⟩ := Hr.out _ hb i hil
              have Hk := Lib.hid hk
              have d6 := d 6 _ rfl
              have Hsn := Lib.hid (List.take_succ_eq_append_getElem hil)
              have hbad := Lib.hid (Hbig.out _ (List.getElem_mem hil))
              have hz := (Ok.out _ (List.getElem_mem hil)).size
              have Hss : Hid (sumM (l.take (i + 1)) = sumM (l.take i) + max l[i].size 0) := Lib.hid (by rw [Hsn.out, sumM_snoc])
              have hp2 : Hid (l[i].size ≤ 1048576 → ∀ e ∈ l.take (i + 1), e.size ≤ 1048576) := Lib.hid (fun h e he => by
                rw [Hsn.out] at he
                rcases List.mem_append.1 he with he | he
                · exact hp.out e he
                · rw [List.mem_singleton.1 he]; exact h)
              clear hk hp d
              generalize sumM (l.take i) = a at *
              generalize l[i] = x at *
              obtain ⟨path, kind, mode, time, tgt, beg, size⟩ := x
              simp only [okI] at d6 hbad hp2 hz Hss
              obtain ⟨z0, z1⟩ := hz
              by_cases hgt : 1048576 < size
              · have Hz := Lib.hid (hbad.out (by omega))
                go_wp2
                go_ret
                exact ⟨by rw [Hz.out]; rfl, hb⟩
              · have Hz := Lib.hid (hp2.out (by omega))
                go_wp2
                go_roundg j
                case measure => omega
                case rel => exact ⟨i + 1, by have := Hk.out; omega, rfl, congrArg (Value.int .i64) (by rw [Hss.out]), hb, Hz⟩
            · obtain rfl : i = l.length := by omega
              rw [List.take_length] at hp hs0 hs3
              rw [List.take_length]
              have HR := Lib.hid (Hrest.out hp.out)
              clear hk Hbig Hrest
              generalize sumM l = S at *
              by_cases hgt : 4194304 < S
              · have Hz := Lib.hid (Hsum.out hgt)
                go_wp2
                go_ret
                exact ⟨by rw [Hz.out]; rfl, hb⟩
              · have Hz := Lib.hid (HR.out (by omega))
                clear HR Hsum
                go_wp2
                go_loopg [7] l.length (fun k v wr => ∃ i : Nat, k + i = l.length ∧ v = .int .i64 i ∧ Below w.heap.size w wr ∧ Hid (∀ e ∈ l.take i, plainP e))
                case atStart => exact ⟨0, by omega, rfl, hb, Lib.hid (by simp)⟩
                case round =>
                  clear hb hlt hgt hs0 hs3
                  obtain ⟨i, hk, rfl, hb, hq⟩ := hrel
                  by_cases hlt : (i : Int) < (l.length : Int)
                  · obtain ⟨j, rfl⟩ : ∃ j, gk = j + 1 := ⟨gk - 1, by omega⟩
                    have hil : i < l.length := by omega
                    have i0' : (0 : Int) ≤ (i : Int) := by omega
                    obtain ⟨b, off, rfl, q, d⟩ := Hr.out _ hb i hil
                    have Hk := Lib.hid hk
                    have Hsn := Lib.hid (List.take_succ_eq_append_getElem hil)
                    have hbad : Hid (¬ plainP l[i] → whyE l = 1) := Lib.hid (fun h => by rw [Hz.out, if_pos (fun h' => h (h' _ (List.getElem_mem hil)))])
                    have hq2 : Hid (plainP l[i] → ∀ e ∈ l.take (i + 1), plainP e) := Lib.hid (fun h e he => by
                      rw [Hsn.out] at he
                      rcases List.mem_append.1 he with he | he
                      · exact hq.out e he
                      · rw [List.mem_singleton.1 he]; exact h)
                    have hsz := hp.out _ (List.getElem_mem hil)
                    have hok := Ok.out _ (List.getElem_mem hil)
                    have hz := hok.size
                    have hzk := hok.kind
                    have htl := hok.tgt
                    clear hk hq hok Hz Hsn
                    generalize l[i] = x at *
                    obtain ⟨path, kind, mode, time, tgt, beg, size⟩ := x
                    obtain ⟨d0, d1, d2, d3, d4, d5, d6⟩ := RdA.cells7 d
                    simp only [okI] at d0 d1 d2 d3 d4 d5 d6 hbad hq2 hsz hz hzk htl
                    have Hpl : Hid (plainP ⟨path, kind, mode, time, tgt, beg, size⟩ ↔ (0 ≤ mode ∧ mode < 4096 ∧ 0 ≤ time ∧ time ≤ 1099511627775 ∧ 0 ≤ size ∧ size ≤ 1048576 ∧ ((kind = 1 ∧ tgt.length = 0) ∨ (kind = 2 ∧ tgt.length = 0 ∧ size = 0) ∨ (kind = 3 ∧ 1 ≤ tgt.length ∧ tgt.length ≤ 256 ∧ size = 0)))) := Lib.hid (by unfold plainP; simp only [List.length_eq_zero_iff])
                    obtain ⟨z0, z1⟩ := hz
                    obtain ⟨z2, z3⟩ := hzk
                    clear d
                    have hb1 := hb.alloc hb.size (.cells #[.string (str path), .int .i64 kind, .int .i64 mode, .int .i64 time, .string (str tgt), .int .i64 beg, .int .i64 size] 62)
                    have tl : ((str tgt).size : Int) ≤ 9223372036854775807 := by show (tgt.length : Int) ≤ _; omega
                    have Tl := Lib.hid (show (str tgt).size = tgt.length from rfl)
                    clear htl hb
                    by_cases m1 : mode < 0
                    · go_wp2
                      go_ret
                      exact ⟨by rw [hbad.out (by rw [Hpl.out]; have := Tl.out; omega)]; rfl, hb1⟩
                    by_cases m2 : 4095 < mode
                    · go_wp2
                      go_ret
                      exact ⟨by rw [hbad.out (by rw [Hpl.out]; have := Tl.out; omega)]; rfl, hb1⟩
                    by_cases m3 : time < 0
                    · go_wp2
                      go_ret
                      exact ⟨by rw [hbad.out (by rw [Hpl.out]; have := Tl.out; omega)]; rfl, hb1⟩
                    by_cases m4 : 1099511627775 < time
                    · go_wp2
                      go_ret
                      exact ⟨by rw [hbad.out (by rw [Hpl.out]; have := Tl.out; omega)]; rfl, hb1⟩
                    by_cases m5 : size < 0
                    · go_wp2
                      go_ret
                      exact ⟨by rw [hbad.out (by rw [Hpl.out]; have := Tl.out; omega)]; rfl, hb1⟩
                    by_cases m6 : kind < 1
                    · go_wp2
                      go_ret
                      exact ⟨by rw [hbad.out (by rw [Hpl.out]; have := Tl.out; omega)]; rfl, hb1⟩
                    by_cases m7 : 3 < kind
                    · go_wp2
                      go_ret
                      exact ⟨by rw [hbad.out (by rw [Hpl.out]; have := Tl.out; omega)]; rfl, hb1⟩
                    by_cases ht0 : tgt = []
                    · subst ht0
                      have e0 : str [] = ByteArray.empty := rfl
                      rw [e0] at d4 hb1 tl
                      have Tl : Hid (([] : List UInt8).length = 0) := Lib.hid rfl
                      by_cases k1 : kind = 1
                      · subst k1
                        go_wp2
                        go_roundg j
                        case measure => omega
                        case rel => exact ⟨i + 1, by have := Hk.out; omega, rfl, hb1, Lib.hid (hq2.out (by rw [Hpl.out]; have := Tl.out; first | omega | (simp; omega) | simp))⟩
                      have k1' : (kind == 1) = false := by simpa using k1
                      by_cases s0 : 0 < size
                      · go_wp2
                        go_ret
                        exact ⟨by rw [hbad.out (by rw [Hpl.out]; have := Tl.out; omega)]; rfl, hb1⟩
                      by_cases k2 : kind = 2
                      · subst k2
                        go_wp2
                        go_roundg j
                        case measure => omega
                        case rel => exact ⟨i + 1, by have := Hk.out; omega, rfl, hb1, Lib.hid (hq2.out (by rw [Hpl.out]; have := Tl.out; first | omega | (simp; omega) | simp))⟩
                      obtain rfl : kind = 3 := by omega
                      go_wp2
                      go_ret
                      exact ⟨by rw [hbad.out (by rw [Hpl.out]; have := Tl.out; omega)]; rfl, hb1⟩
                    have hp0 : 0 < tgt.length := List.length_pos_iff.2 ht0
                    have s1 : 0 < (str tgt).size := hp0
                    have s1i : (0 : Int) < ((str tgt).size : Int) := by omega
                    have s1' : (((str tgt).size : Int) == 0) = false := by rw [beq_eq_false_iff_ne]; omega
                    have s1n : ((str tgt).size == 0) = false := by rw [beq_eq_false_iff_ne]; omega
                    by_cases k1 : kind = 1
                    · subst k1
                      go_wp2
                      go_ret
                      exact ⟨by rw [hbad.out (by rw [Hpl.out]; have := Tl.out; omega)]; rfl, hb1⟩
                    have k1' : (kind == 1) = false := by simpa using k1
                    by_cases s0 : 0 < size
                    · go_wp2
                      go_ret
                      exact ⟨by rw [hbad.out (by rw [Hpl.out]; have := Tl.out; omega)]; rfl, hb1⟩
                    by_cases k2 : kind = 2
                    · subst k2
                      go_wp2
                      go_ret
                      exact ⟨by rw [hbad.out (by rw [Hpl.out]; have := Tl.out; omega)]; rfl, hb1⟩
                    obtain rfl : kind = 3 := by omega
                    by_cases s2 : (256 : Int) < ((str tgt).size : Int)
                    · go_wp2
                      go_ret
                      exact ⟨by rw [hbad.out (by rw [Hpl.out]; have := Tl.out; omega)]; rfl, hb1⟩
                    go_wp2
                    go_roundg j
                    case measure => omega
                    case rel => exact ⟨i + 1, by have := Hk.out; omega, rfl, hb1, Lib.hid (hq2.out (by rw [Hpl.out]; have := Tl.out; first | omega | (simp; omega) | simp))⟩
                  · have Hw : Hid (whyE l = 0) := Lib.hid (by rw [Hz.out, if_neg]; intro h; apply h; have h2 := hq.out; rw [List.take_of_length_le (by omega)] at h2; exact h2)
                    go_wp2
                    go_ret
                    exact ⟨by rw [Hw.out]; rfl, hb⟩
end Go.Proofs.YtmppagiaonbggaaDoor

/- When two entries are the same: the runs of == and != on them. -/
namespace Go.Proofs.YtmppagiaonbggaaDoor
set_option linter.unusedVariables false
set_option linter.unusedSimpArgs false
set_option maxRecDepth 100000
open Go.RowKit

theorem str_inj {a b : List UInt8} : (str a).toList == (str b).toList ↔ a = b := by
  rw [ByteArray.toList_eq, ByteArray.toList_eq, beq_iff_eq]; exact Iff.rfl
theorem str_beq (a b : List UInt8) : ((str a).toList == (str b).toList) = decide (a = b) := by
  rw [Bool.eq_iff_iff, decide_eq_true_iff]; exact str_inj
set_option maxRecDepth 100000 in
theorem eqEn (a b : En) (w : World) : (Op.equalIn 10000 71 (.agg (enL a).toArray) (.agg (enL b).toArray)).run Tryd.prog w = .ok (decide (a = b)) w := by
  obtain ⟨p1, k1, m1, t1, g1, b1, s1⟩ := a
  obtain ⟨p2, k2, m2, t2, g2, b2, s2⟩ := b
  simp only [enL]
  have u3 := Tryd.underlying3
  have u9 := Tryd.underlying9
  have hS : Tryd.prog.underlying 71 = some (.struct (Tryd.prog.fieldsOf 71)) := by kernel_rfl
  have hp : Tryd.prog.stoodInHeld 71 = false := by kernel_rfl
  rw [show (10000 : Nat) = 9999 + 1 from rfl, run_equalIn_agg w 9999 71 _ _ hS hp]
  simp only [Program.fieldsOf, Tryd.underlying71]
  go_simp
  have hs : ∀ a b : List UInt8, (str a).toList = (str b).toList ↔ a = b := fun a b => by rw [ByteArray.toList_eq, ByteArray.toList_eq]; exact Iff.rfl
  simp only [hs]
  by_cases h1 : p1 = p2
  · by_cases h2 : k1 = k2
    · by_cases h3 : m1 = m2
      · by_cases h4 : t1 = t2
        · by_cases h5 : g1 = g2
          · by_cases h6 : b1 = b2
            · by_cases h7 : s1 = s2
              · simp [h1, h2, h3, h4, h5, h6, h7]
              · simp [h1, h2, h3, h4, h5, h6, h7]
            · simp [h1, h2, h3, h4, h5, h6]
          · simp [h1, h2, h3, h4, h5]
        · simp [h1, h2, h3, h4]
      · simp [h1, h2, h3]
    · simp [h1, h2]
  · simp [h1]
set_option maxRecDepth 100000 in
theorem eqEnR (a b : En) (w : World) : (Op.equalIn 10000 62 (.agg (enL a).toArray) (.agg (enL b).toArray)).run Tryd.prog w = .ok (decide (a = b)) w := by
  obtain ⟨p1, k1, m1, t1, g1, b1, s1⟩ := a
  obtain ⟨p2, k2, m2, t2, g2, b2, s2⟩ := b
  simp only [enL]
  have u3 := Tryd.underlying3
  have u9 := Tryd.underlying9
  have hS : Tryd.prog.underlying 62 = some (.struct (Tryd.prog.fieldsOf 62)) := by kernel_rfl
  have hp : Tryd.prog.stoodInHeld 62 = false := by kernel_rfl
  rw [show (10000 : Nat) = 9999 + 1 from rfl, run_equalIn_agg w 9999 62 _ _ hS hp]
  simp only [Program.fieldsOf, Tryd.underlying62]
  go_simp
  have hs : ∀ a b : List UInt8, (str a).toList = (str b).toList ↔ a = b := fun a b => by rw [ByteArray.toList_eq, ByteArray.toList_eq]; exact Iff.rfl
  simp only [hs]
  by_cases h1 : p1 = p2
  · by_cases h2 : k1 = k2
    · by_cases h3 : m1 = m2
      · by_cases h4 : t1 = t2
        · by_cases h5 : g1 = g2
          · by_cases h6 : b1 = b2
            · by_cases h7 : s1 = s2
              · simp [h1, h2, h3, h4, h5, h6, h7]
              · simp [h1, h2, h3, h4, h5, h6, h7]
            · simp [h1, h2, h3, h4, h5, h6]
          · simp [h1, h2, h3, h4, h5]
        · simp [h1, h2, h3, h4]
      · simp [h1, h2, h3]
    · simp [h1, h2]
  · simp [h1]
theorem guardEn : Tryd.prog.eqGuardType Tryd.prog.depth 71 = false := by kernel_rfl
theorem guardEnR : Tryd.prog.eqGuardType Tryd.prog.depth 62 = false := by kernel_rfl
theorem neqEnR (a b : En) (w : World) : (binOp .neq 62 (.agg (enL a).toArray) (.agg (enL b).toArray)).run Tryd.prog w = .ok (.bool (!decide (a = b))) w := by
  rw [run_neq_struct, eqEnR]; rfl
theorem neqEn (a b : En) (w : World) : (binOp .neq 71 (.agg (enL a).toArray) (.agg (enL b).toArray)).run Tryd.prog w = .ok (.bool (!decide (a = b))) w := by
  rw [run_neq_struct, eqEn]; rfl
theorem eqlEn (a b : En) (w : World) : (binOp .eql 71 (.agg (enL a).toArray) (.agg (enL b).toArray)).run Tryd.prog w = .ok (.bool (decide (a = b))) w := by
  rw [run_eql_struct, eqEn]; rfl
end Go.Proofs.YtmppagiaonbggaaDoor

/- The walks over the reference's Fine, Total and Within. -/
namespace Go.Proofs.YtmppagiaonbggaaDoor
set_option linter.unusedVariables false
set_option linter.unusedSimpArgs false
set_option maxRecDepth 100000
open Go.RowKit

theorem within_len {l : List En} {n : Int} {i : Nat} (hf : fineB l = true) (hi : ∀ x ∈ l.take i, decide (x.beg + x.size ≤ n) = true) (h : ∀ hlt : i < l.length, ¬ l[i].beg + l[i].size ≤ n) (hle : i ≤ l.length) : (withinE l n).length = i := by
  unfold withinE
  rw [if_pos hf, takeWhile_take _ l i hi, List.length_append, List.length_take]
  by_cases hlt : i < l.length
  · rw [List.drop_eq_getElem_cons hlt, List.takeWhile_cons, if_neg (by simpa using h hlt)]
    simp; omega
  · rw [List.drop_eq_nil_of_le (by omega)]; simp; omega

end Go.Proofs.YtmppagiaonbggaaDoor

/- The walks over what the laws on entries use: Few, Short, given, told, same. -/
namespace Go.Proofs.YtmppagiaonbggaaDoor
set_option linter.unusedVariables false
set_option linter.unusedSimpArgs false
set_option maxRecDepth 100000
open Go.RowKit

/-- What every file of Go is, however great. -/
structure Fi.wide (f : Fi) : Prop where
  path : f.path.length ≤ 9223372036854775807
  kind : okI f.kind
  mode : okI f.mode
  time : okI f.time
  tgt : f.tgt.length ≤ 9223372036854775807
  data : f.data.length ≤ 9223372036854775807
def smallF (f : Fi) : Prop := f.path.length ≤ 300 ∧ f.tgt.length ≤ 300 ∧ f.data.length ≤ 200
instance (f : Fi) : Decidable (smallF f) := by unfold smallF; infer_instance
def fewP (l : List Fi) : Prop := l.length ≤ 12 ∧ ∀ f ∈ l, smallF f
instance (l : List Fi) : Decidable (fewP l) := by unfold fewP; infer_instance
theorem few_ok {l : List (Fi × Value)} (hw : ∀ x ∈ l, x.1.wide) (h : fewP (l.map (·.1))) : l.length ≤ 12 ∧ dataLen (l.map (·.1)) ≤ 2400 ∧ ∀ x ∈ l, x.1.ok := by
  refine ⟨by simpa using h.1, ?_, fun x hx => ?_⟩
  · have : ∀ m : List Fi, (∀ f ∈ m, smallF f) → dataLen m ≤ 200 * m.length := by
      intro m
      induction m with
      | nil => intro _; simp [dataLen]
      | cons f m ih =>
        intro hm
        have h1 := ih (fun g hg => hm g (List.mem_cons_of_mem _ hg))
        have h2 := (hm f List.mem_cons_self).2.2
        have h3 : dataLen (f :: m) = f.data.length + dataLen m := rfl
        rw [h3, List.length_cons]; omega
    have h1 := this _ h.2
    have h2 := h.1
    omega
  · have h1 := hw x hx
    have h2 := h.2 x.1 (List.mem_map_of_mem hx)
    exact ⟨by have := h2.1; omega, h1.kind, h1.mode, h1.time, h1.tgt⟩
theorem cells6 {w : World} {b off : Nat} {i : Nat} {x : Fi × Value} (d : ∀ j u, (fiL x)[j]? = some u → w.cell? ⟨b, off + i * 6 + j, none⟩ = some u) :
    w.cell? ⟨b, off + i * 6, none⟩ = some (.string (str x.1.path)) ∧ w.cell? ⟨b, off + i * 6 + 1, none⟩ = some (.int .i64 x.1.kind) ∧ w.cell? ⟨b, off + i * 6 + 2, none⟩ = some (.int .i64 x.1.mode) ∧ w.cell? ⟨b, off + i * 6 + 3, none⟩ = some (.int .i64 x.1.time) ∧
    w.cell? ⟨b, off + i * 6 + 4, none⟩ = some x.2 ∧ w.cell? ⟨b, off + i * 6 + 5, none⟩ = some (.string (str x.1.tgt)) :=
  ⟨d 0 _ rfl, d 1 _ rfl, d 2 _ rfl, d 3 _ rfl, d 4 _ rfl, d 5 _ rfl⟩

set_option maxRecDepth 100000 in
set_option maxHeartbeats 1600000 in
theorem few_any (A : Option Addr) (c : Nat) (l : List (Fi × Value)) (hl : l.length ≤ 9223372036854775807) (hw : ∀ x ∈ l, x.1.wide) (w : World) (hr : RdF w A l) :
    Calls Tryd.prog 9 #[.slice A l.length c] w fun e w' => e = .returned (.bool (decide (fewP (l.map (·.1))))) ∧ w = w' := by
  have Hr := Lib.hid hr
  have Hw := Lib.hid hw
  have n1 : (l.length : Int) ≤ 9223372036854775807 := by omega
  have Hbad : Hid (∀ x ∈ l, ¬ smallF x.1 → decide (fewP (l.map (·.1))) = false) := Lib.hid (fun x hx h => decide_eq_false (fun h' => h (h'.2 _ (List.mem_map_of_mem hx))))
  have Hlong : Hid (12 < l.length → decide (fewP (l.map (·.1))) = false) := Lib.hid (fun h => decide_eq_false (fun h' => by have := h'.1; simp at this; omega))
  have Hgood : Hid (l.length ≤ 12 → (∀ x ∈ l, smallF x.1) → decide (fewP (l.map (·.1))) = true) := Lib.hid (fun h1 h2 => decide_eq_true ⟨by simpa using h1, fun f hf => by obtain ⟨x, hx, rfl⟩ := List.mem_map.1 hf; exact h2 x hx⟩)
  clear hr hw
  go_enter Tryd.func9, Tryd.ntmps9
  go_wp2
  go_loopg [3] l.length (fun k v wr => ∃ i : Nat, k + i = l.length ∧ i ≤ 13 ∧ v = .int .i64 i ∧ wr = w ∧ Hid (∀ x ∈ l.take i, smallF x.1))
  case atStart => exact ⟨0, by omega, by omega, rfl, rfl, Lib.hid (by simp)⟩
  case round =>
    obtain ⟨i, hk, hi13, rfl, rfl, hq⟩ := hrel
    have i0' : (0 : Int) ≤ (i : Int) := by omega
    by_cases hlt : (i : Int) < (l.length : Int)
    · by_cases h12 : (i : Int) ≤ 12
      · obtain ⟨j, rfl⟩ : ∃ j, gk = j + 1 := ⟨gk - 1, by omega⟩
        have hil : i < l.length := by omega
        obtain ⟨b, off, rfl, q, d⟩ := Hr.out.1 i hil
        obtain ⟨Ad, cd, hdv⟩ := Hr.out.get i hil
        have Hk := Lib.hid hk
        have hwi := Hw.out _ (List.getElem_mem hil)
        have w1 := hwi.path
        have w2 := hwi.tgt
        have w3 := hwi.data
        have Hb := Lib.hid (Hbad.out _ (List.getElem_mem hil))
        have Hq2 : Hid (smallF l[i].1 → ∀ x ∈ l.take (i + 1), smallF x.1) := Lib.hid (fun h x hx => by
          rw [List.take_succ_eq_append_getElem hil] at hx
          rcases List.mem_append.1 hx with hx | hx
          · exact hq.out x hx
          · rw [List.mem_singleton.1 hx]; exact h)
        clear hk hq hwi
        generalize l[i] = x at *
        obtain ⟨⟨path, kind, mode, time, data, tgt⟩, dv⟩ := x
        obtain ⟨d0, d1, d2, d3, d4, d5⟩ := cells6 d
        simp only at d0 d1 d2 d3 d4 d5 hdv w1 w2 w3 Hb Hq2
        subst hdv
        clear d
        have z1 : ((str path).size : Int) ≤ 9223372036854775807 := by show (path.length : Int) ≤ _; omega
        have z2 : ((str tgt).size : Int) ≤ 9223372036854775807 := by show (tgt.length : Int) ≤ _; omega
        have z3 : (data.length : Int) ≤ 9223372036854775807 := by omega
        have Z := Lib.hid (And.intro (show (str path).size = path.length from rfl) (show (str tgt).size = tgt.length from rfl))
        by_cases s1 : (300 : Int) < ((str path).size : Int)
        · have Hf := Lib.hid (Hb.out (fun h => by have := h.1; have := Z.out; simp only at *; omega))
          go_wp2
          go_ret
          exact ⟨by rw [Hf.out]; rfl, rfl⟩
        by_cases s2 : (300 : Int) < ((str tgt).size : Int)
        · have Hf := Lib.hid (Hb.out (fun h => by have := h.2.1; have := Z.out; simp only at *; omega))
          go_wp2
          go_ret
          exact ⟨by rw [Hf.out]; rfl, rfl⟩
        by_cases s3 : (200 : Int) < (data.length : Int)
        · have Hf := Lib.hid (Hb.out (fun h => by have := h.2.2; simp only at *; omega))
          go_wp2
          go_ret
          exact ⟨by rw [Hf.out]; rfl, rfl⟩
        have Hq3 := Lib.hid (Hq2.out ⟨by have := Z.out; simp only at *; omega, by have := Z.out; simp only at *; omega, by simp only; omega⟩)
        go_wp2
        go_roundg j
        case measure => omega
        case rel => exact ⟨i + 1, by have := Hk.out; omega, by omega, rfl, rfl, Hq3⟩
      · have h12' : (12 : Int) < (l.length : Int) := by omega
        have h12n : ¬ (l.length : Int) ≤ 12 := by omega
        have Hf := Lib.hid (Hlong.out (by omega))
        go_wp2
        go_ret
        exact ⟨by rw [Hf.out]; rfl, rfl⟩
    · by_cases h12 : (l.length : Int) ≤ 12
      · have Hf := Lib.hid (Hgood.out (by omega) (fun x hx => hq.out x (by rw [List.take_of_length_le (by omega)]; exact hx)))
        go_wp2
        go_ret
        exact ⟨by rw [Hf.out]; rfl, rfl⟩
      · have Hf := Lib.hid (Hlong.out (by omega))
        have h12n : decide ((l.length : Int) ≤ 12) = false := by simpa using h12
        go_wp2
        go_ret
        exact ⟨by rw [Hf.out]; rfl, rfl⟩

def shortE (e : En) : Prop := e.path.length ≤ 300 ∧ e.tgt.length ≤ 300 ∧ e.size ≤ 1099511627776 ∧ -1099511627776 ≤ e.size
instance (f : En) : Decidable (shortE f) := by unfold shortE; infer_instance
def shortP (l : List En) : Prop := l.length ≤ 20 ∧ ∀ f ∈ l, shortE f
instance (l : List En) : Decidable (shortP l) := by unfold shortP; infer_instance
end Go.Proofs.YtmppagiaonbggaaDoor

/- Slices of structs that a law is asked for, as its walk wants them. -/
namespace Go.Proofs.YtmppagiaonbggaaDoor
set_option linter.unusedVariables false
set_option linter.unusedSimpArgs false
set_option maxRecDepth 100000
open Go.RowKit Go.Deep Go.ChangeShapes Go.WideShapes

section
variable {H : Type} {enc : TypeId × Value → H} {P : Program} {w : World} {base : Nat} {spare : Nat → Bool} {held : Bool}
theorem open_slice_fieldsE {t e : TypeId} {fs : Array Field} {fuel : Nat} {cs : List Value} {x : DataW H × List MemPlace} (ht : P.underlying t = some (.slice e)) (he : P.underlying e = some (.struct fs))
    (hone : oneCellFields P fs = true) (hC : P.cellsOf e = fs.size) (h : DataW.trod enc P w base spare held fuel t cs = some x) :
    (cs = [.slice none 0 0] ∧ x = (.nil, [])) ∨
    ∃ (a : Addr) (len cap m : Nat), cs = [.slice (some a) len cap] ∧ base ≤ a.block ∧ len ≤ cap ∧ cap ≤ maxLen ∧ m = (if spare a.block then cap else len) ∧
      ∀ i, i < m → ∃ n : Nat, ∀ (j : Nat) (f : Field), fs[j]? = some f → ∃ (v : Value) (y : DataW H × List MemPlace), w.cell? (a.add (i * fs.size + j)) = some v ∧ DataW.trod enc P w base spare held n f.type [v] = some y := by
  rcases open_slice ht h with h0 | ⟨a, len, cap, m, n, D, Pl, hcs, hb, hl, hm, hmm, hx, hi⟩
  · exact .inl h0
  · refine .inr ⟨a, len, cap, m, hcs, hb, hl, hm, hmm, fun i him => ?_⟩
    obtain ⟨cs', hc, ht'⟩ := hi i him
    rw [hC] at hc
    obtain ⟨ys, n', hn', hy, hlen, hyl, hf⟩ := DataW.trod_struct he ht'
    obtain ⟨_, hcl, hat⟩ := World.cells?_some hc
    refine ⟨n', fun j f hj => ?_⟩
    obtain ⟨ho, hk⟩ := hone_of hone j f hj
    have hjl : j < fs.size := (Array.getElem?_eq_some_iff.1 hj).1
    have hcell := hat j hjl
    have hv : cs'[j]? = some (cs'[j]'(by omega)) := List.getElem?_eq_getElem (by omega)
    have h1 := hf j f hj
    rw [ho, hk] at h1
    have hone' : (cs'.drop j).take 1 = [cs'[j]'(by omega)] := by
      rw [List.drop_eq_getElem_cons (by omega)]
      rfl
    rw [hone'] at h1
    have hys : ys[j]? = some (ys[j]'(by omega)) := List.getElem?_eq_getElem (by omega)
    refine ⟨_, _, ?_, h1.trans hys⟩
    rw [← Go.Deep.add_add, hcell, hv]

/-- A slice of structs of one-cell fields that came in, by what each struct's own reading gives. -/
theorem rd_structs {α : Type} [Inhabited α] (cs : α → List Value) (ok : α → Prop) {t e : TypeId} {fs : Array Field} {v : Value} {d : DataW H} {p : List MemPlace} (ht : P.underlying t = some (.slice e)) (he : P.underlying e = some (.struct fs))
    (hone : oneCellFields P fs = true) (hC : P.cellsOf e = fs.size) (hpos : 0 < fs.size)
    (hel : ∀ (g : Nat → Value) (n : Nat), (∀ (j : Nat) (f : Field), fs[j]? = some f → ∃ y, DataW.trod enc P w base spare held n f.type [g j] = some y) → ∃ a, ok a ∧ ∀ j u, (cs a)[j]? = some u → j < fs.size ∧ u = g j)
    (hv : ∃ A n c, v = .slice A n c) (h : DataW.Trod enc P w base spare held t v d p) : ∃ (A : Option Addr) (l : List α) (c : Nat), v = .slice A l.length c ∧ RdA fs.size cs w A l ∧ l.length ≤ c ∧ c ≤ maxLen ∧ ∀ a ∈ l, ok a := by
  obtain ⟨A, n, c, rfl⟩ := hv
  obtain ⟨fuel, hf⟩ := h
  rcases open_slice_fieldsE ht he hone hC hf with ⟨hcs, _⟩ | ⟨a, len, cap, m, hcs, hb, hl, hm, hmm, hi⟩
  · simp [Value.cells] at hcs
    obtain ⟨rfl, rfl, rfl⟩ := hcs
    exact ⟨none, [], 0, rfl, RdA.nil, Nat.le_refl _, by unfold maxLen; omega, by simp⟩
  · simp [Value.cells] at hcs
    obtain ⟨rfl, rfl, rfl⟩ := hcs
    have hlm : n ≤ m := by rw [hmm]; split <;> omega
    by_cases hn : n = 0
    · subst hn
      exact ⟨some a, [], c, rfl, RdA.nil, Nat.zero_le _, hm, by simp⟩
    have hsp : a.spot = none := by
      obtain ⟨n', hfs⟩ := hi 0 (by omega)
      obtain ⟨f, hf0⟩ : ∃ f, fs[0]? = some f := ⟨_, Array.getElem?_eq_getElem hpos⟩
      obtain ⟨v, y, hq, _⟩ := hfs 0 f hf0
      have := World.cell?_spot hq
      simpa [Addr.add] using this
    obtain ⟨b, off, spot⟩ := a
    simp only at hsp
    subst hsp
    have hel2 : ∀ i, i < n → ∃ q : α, ok q ∧ ∀ j u, (cs q)[j]? = some u → w.cell? ⟨b, off + i * fs.size + j, none⟩ = some u := by
      intro i hin
      obtain ⟨n', hfs⟩ := hi i (by omega)
      obtain ⟨q, hq, hcq⟩ := hel (fun j => (w.cell? ((⟨b, off, none⟩ : Addr).add (i * fs.size + j))).getD undef) n' (fun j f hj => by
        obtain ⟨v, y, hc, hy⟩ := hfs j f hj
        exact ⟨y, by rw [hc]; exact hy⟩)
      refine ⟨q, hq, fun j u hu => ?_⟩
      obtain ⟨hj, e⟩ := hcq j u hu
      obtain ⟨v, y, hc, _⟩ := hfs j _ (Array.getElem?_eq_getElem hj)
      rw [hc] at e
      rw [Addr.add_lit] at hc
      rw [Nat.add_assoc, hc, e]
      rfl
    obtain ⟨g, hg⟩ := choose_lt (n := n) (α := α) (p := fun i q => ok q ∧ ∀ j u, (cs q)[j]? = some u → w.cell? ⟨b, off + i * fs.size + j, none⟩ = some u) hel2
    refine ⟨some ⟨b, off, none⟩, (List.range n).map g, c, by simp, fun i hin => ?_, by simpa using hl, hm, ?_⟩
    · have hin' : i < n := by simpa using hin
      refine ⟨b, off, rfl, ?_, fun j u hu => ?_⟩
      · obtain ⟨n', hfs⟩ := hi i (by omega)
        obtain ⟨v, y, hq, _⟩ := hfs 0 _ (Array.getElem?_eq_getElem hpos)
        have := World.block_lt_of_cell? w _ hq
        rwa [add_block] at this
      · simp at hu
        exact (hg i hin').2 j u hu
    · intro x hx
      obtain ⟨i, hir, rfl⟩ := List.mem_map.1 hx
      exact (hg i (List.mem_range.1 hir)).1

theorem wf_ok {z : Int} (h : (Lit.int .i64 z).wf = true) : okI z := by
  have hw := h
  simp [Lit.wf, IntKind.min, IntKind.max, IntKind.signed, IntKind.bits] at hw
  unfold okI; omega
/-- A slice of bytes that came in, one level down. -/
theorem rd_u8s_in {t e : TypeId} {fuel : Nat} {v : Value} {x : DataW H × List MemPlace} (ht : P.underlying t = some (.slice e)) (he : P.underlying e = some (.int .u8)) (hC : P.cellsOf e = 1)
    (h : DataW.trod enc P w base spare held fuel t [v] = some x) : ∃ (A : Option Addr) (l : List UInt8) (c : Nat), v = .slice A l.length c ∧ Rd w v (bytesU l) ∧ l.length ≤ c ∧ c ≤ maxLen := by
  have hv : ∃ A n c, v = .slice A n c := by
    rcases open_slice1 ht hC h with ⟨hcs, _⟩ | ⟨a, len, cap, m, k, V, D, Pl, hcs, _⟩
    · injection hcs with h1; exact ⟨_, _, _, h1⟩
    · injection hcs with h1; exact ⟨_, _, _, h1⟩
  obtain ⟨A, n, c, rfl⟩ := hv
  obtain ⟨A', l, c', hv, hrd, h1, h2, _⟩ := rd_slice1 (fun x : UInt8 => Value.int .u8 (x.toNat : Int)) (fun _ => True) ht hC (fun fuel u y hy => by
    obtain ⟨n, hn, _, hw⟩ := DataW.trod_int he hy
    have hw := hw
    simp [Lit.wf, IntKind.min, IntKind.max, IntKind.signed, IntKind.bits] at hw
    refine ⟨UInt8.ofNat n.toNat, ?_, trivial⟩
    simp at hn
    subst hn
    congr 1
    simp
    omega) ⟨A, n, c, rfl⟩ ⟨fuel, show DataW.trod enc P w base spare held fuel t (Value.slice A n c).cells.toList = some _ from h⟩
  exact ⟨A', l, c', hv, hrd, h1, h2⟩
/-- A slice of entries that came in. -/
theorem rd_ens {t e ti tstr : TypeId} {f0 f1 f2 f3 f4 f5 f6 : Field} {v : Value} {d : DataW H} {p : List MemPlace} (ht : P.underlying t = some (.slice e)) (he : P.underlying e = some (.struct #[f0, f1, f2, f3, f4, f5, f6])) (hone : oneCellFields P #[f0, f1, f2, f3, f4, f5, f6] = true) (hC : P.cellsOf e = 7)
    (hti : P.underlying ti = some (.int .i64)) (hts : P.underlying tstr = some .string) (h0 : f0.type = tstr) (h1 : f1.type = ti) (h2 : f2.type = ti) (h3 : f3.type = ti) (h4 : f4.type = tstr) (h5 : f5.type = ti) (h6 : f6.type = ti)
    (hv : ∃ A n c, v = .slice A n c) (h : DataW.Trod enc P w base spare held t v d p) : ∃ (A : Option Addr) (l : List En) (c : Nat), v = .slice A l.length c ∧ RdA 7 enL w A l ∧ l.length ≤ c ∧ c ≤ maxLen ∧ ∀ a ∈ l, a.ok := by
  refine rd_structs enL En.ok ht he hone hC (of_decide_eq_true rfl) (fun g n hg => ?_) hv h
  have gi : ∀ (j : Nat) (f : Field), (#[f0, f1, f2, f3, f4, f5, f6] : Array Field)[j]? = some f → f.type = ti → ∃ z : Int, g j = .int .i64 z ∧ okI z := by
    intro j f hj hft
    obtain ⟨y, hy⟩ := hg j f hj
    obtain ⟨z, hz, _, hw⟩ := DataW.trod_int (k := .i64) (by rw [hft]; exact hti) hy
    exact ⟨z, by simpa using hz, wf_ok hw⟩
  have gs : ∀ (j : Nat) (f : Field), (#[f0, f1, f2, f3, f4, f5, f6] : Array Field)[j]? = some f → f.type = tstr → ∃ z : List UInt8, g j = .string (str z) ∧ z.length ≤ 9223372036854775807 := by
    intro j f hj hft
    obtain ⟨y, hy⟩ := hg j f hj
    obtain ⟨b, hb, _, hw⟩ := DataW.trod_string (by rw [hft]; exact hts) hy
    refine ⟨b.data.toList, by rw [str_data]; simpa using hb, ?_⟩
    have := hw
    simp [Lit.wf, maxLen] at this
    exact this
  obtain ⟨z0, e0, w0⟩ := gs 0 f0 rfl h0
  obtain ⟨z1, e1, w1⟩ := gi 1 f1 rfl h1
  obtain ⟨z2, e2, w2⟩ := gi 2 f2 rfl h2
  obtain ⟨z3, e3, w3⟩ := gi 3 f3 rfl h3
  obtain ⟨z4, e4, w4⟩ := gs 4 f4 rfl h4
  obtain ⟨z5, e5, w5⟩ := gi 5 f5 rfl h5
  obtain ⟨z6, e6, w6⟩ := gi 6 f6 rfl h6
  refine ⟨⟨z0, z1, z2, z3, z4, z5, z6⟩, ⟨w0, w1, w2, w3, w4, w5, w6⟩, fun j u hu => ?_⟩
  match j, hu with
  | 0, hu => exact ⟨of_decide_eq_true rfl, (Option.some.inj hu).symm.trans e0.symm⟩
  | 1, hu => exact ⟨of_decide_eq_true rfl, (Option.some.inj hu).symm.trans e1.symm⟩
  | 2, hu => exact ⟨of_decide_eq_true rfl, (Option.some.inj hu).symm.trans e2.symm⟩
  | 3, hu => exact ⟨of_decide_eq_true rfl, (Option.some.inj hu).symm.trans e3.symm⟩
  | 4, hu => exact ⟨of_decide_eq_true rfl, (Option.some.inj hu).symm.trans e4.symm⟩
  | 5, hu => exact ⟨of_decide_eq_true rfl, (Option.some.inj hu).symm.trans e5.symm⟩
  | 6, hu => exact ⟨of_decide_eq_true rfl, (Option.some.inj hu).symm.trans e6.symm⟩
  | j + 7, hu => simp [enL] at hu
/-- A slice of files that came in. -/
theorem rd_files {t e ti tstr tb tu : TypeId} {f0 f1 f2 f3 f4 f5 : Field} {v : Value} {d : DataW H} {p : List MemPlace} (ht : P.underlying t = some (.slice e)) (he : P.underlying e = some (.struct #[f0, f1, f2, f3, f4, f5])) (hone : oneCellFields P #[f0, f1, f2, f3, f4, f5] = true) (hC : P.cellsOf e = 6)
    (hti : P.underlying ti = some (.int .i64)) (hts : P.underlying tstr = some .string) (htb : P.underlying tb = some (.slice tu)) (htu : P.underlying tu = some (.int .u8)) (hCu : P.cellsOf tu = 1)
    (h0 : f0.type = tstr) (h1 : f1.type = ti) (h2 : f2.type = ti) (h3 : f3.type = ti) (h4 : f4.type = tb) (h5 : f5.type = tstr)
    (hv : ∃ A n c, v = .slice A n c) (h : DataW.Trod enc P w base spare held t v d p) : ∃ (A : Option Addr) (l : List (Fi × Value)) (c : Nat), v = .slice A l.length c ∧ RdF w A l ∧ l.length ≤ c ∧ c ≤ maxLen ∧ ∀ a ∈ l, a.1.wide := by
  suffices hel : ∀ (g : Nat → Value) (n : Nat), (∀ (j : Nat) (f : Field), (#[f0, f1, f2, f3, f4, f5] : Array Field)[j]? = some f → ∃ y, DataW.trod enc P w base spare held n f.type [g j] = some y) → ∃ a : Fi × Value, (a.1.wide ∧ Rd w a.2 (bytesU a.1.data)) ∧ ∀ j u, (fiL a)[j]? = some u → j < (#[f0, f1, f2, f3, f4, f5] : Array Field).size ∧ u = g j by
    obtain ⟨A, l, c, hv, hr, hl, hc, hok⟩ := rd_structs fiL (fun x => x.1.wide ∧ Rd w x.2 (bytesU x.1.data)) ht he hone hC (of_decide_eq_true rfl) hel hv h
    exact ⟨A, l, c, hv, ⟨hr, fun x hx => (hok x hx).2⟩, hl, hc, fun x hx => (hok x hx).1⟩
  intro g n hg
  have gi : ∀ (j : Nat) (f : Field), (#[f0, f1, f2, f3, f4, f5] : Array Field)[j]? = some f → f.type = ti → ∃ z : Int, g j = .int .i64 z ∧ okI z := by
    intro j f hj hft
    obtain ⟨y, hy⟩ := hg j f hj
    obtain ⟨z, hz, _, hw⟩ := DataW.trod_int (k := .i64) (by rw [hft]; exact hti) hy
    exact ⟨z, by simpa using hz, wf_ok hw⟩
  have gs : ∀ (j : Nat) (f : Field), (#[f0, f1, f2, f3, f4, f5] : Array Field)[j]? = some f → f.type = tstr → ∃ z : List UInt8, g j = .string (str z) ∧ z.length ≤ 9223372036854775807 := by
    intro j f hj hft
    obtain ⟨y, hy⟩ := hg j f hj
    obtain ⟨b, hb, _, hw⟩ := DataW.trod_string (by rw [hft]; exact hts) hy
    refine ⟨b.data.toList, by rw [str_data]; simpa using hb, ?_⟩
    have := hw
    simp [Lit.wf, maxLen] at this
    exact this
  obtain ⟨z0, e0, w0⟩ := gs 0 f0 rfl h0
  obtain ⟨z1, e1, w1⟩ := gi 1 f1 rfl h1
  obtain ⟨z2, e2, w2⟩ := gi 2 f2 rfl h2
  obtain ⟨z3, e3, w3⟩ := gi 3 f3 rfl h3
  obtain ⟨y4, hy4⟩ := hg 4 f4 rfl
  rw [h4] at hy4
  obtain ⟨A4, l4, c4, e4, r4, k4, m4⟩ := rd_u8s_in htb htu hCu hy4
  obtain ⟨z5, e5, w5⟩ := gs 5 f5 rfl h5
  refine ⟨(⟨z0, z1, z2, z3, l4, z5⟩, g 4), ⟨⟨w0, w1, w2, w3, w5, by have : maxLen = 9223372036854775807 := rfl; show l4.length ≤ _; omega⟩, r4⟩, fun j u hu => ?_⟩
  match j, hu with
  | 0, hu => exact ⟨of_decide_eq_true rfl, (Option.some.inj hu).symm.trans e0.symm⟩
  | 1, hu => exact ⟨of_decide_eq_true rfl, (Option.some.inj hu).symm.trans e1.symm⟩
  | 2, hu => exact ⟨of_decide_eq_true rfl, (Option.some.inj hu).symm.trans e2.symm⟩
  | 3, hu => exact ⟨of_decide_eq_true rfl, (Option.some.inj hu).symm.trans e3.symm⟩
  | 4, hu => exact ⟨of_decide_eq_true rfl, (Option.some.inj hu).symm⟩
  | 5, hu => exact ⟨of_decide_eq_true rfl, (Option.some.inj hu).symm.trans e5.symm⟩
  | j + 6, hu => simp [fiL] at hu
/-- A slice of bytes that came in. -/
theorem rd_u8s {t e : TypeId} {v : Value} {d : DataW H} {p : List MemPlace} (ht : P.underlying t = some (.slice e)) (he : P.underlying e = some (.int .u8)) (hC : P.cellsOf e = 1)
    (hv : ∃ A n c, v = .slice A n c) (h : DataW.Trod enc P w base spare held t v d p) : ∃ (A : Option Addr) (l : List UInt8) (c : Nat), v = .slice A l.length c ∧ Rd w v (bytesU l) ∧ l.length ≤ c ∧ c ≤ maxLen := by
  obtain ⟨A, n, c, rfl⟩ := hv
  obtain ⟨fuel, hf⟩ := h
  exact rd_u8s_in ht he hC (show DataW.trod enc P w base spare held fuel t [Value.slice A n c] = some _ from hf)
end
end Go.Proofs.YtmppagiaonbggaaDoor
