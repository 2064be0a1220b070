/- The walk over the reference's Why. -/
import Derived.Test.YtfppancidgamjaaDoorE7
namespace Go.Proofs.YtfppancidgamjaaDoor
set_option linter.unusedVariables false
set_option linter.unusedSimpArgs false
open Go.RowKit

def sumM (l : List En) : Int := (l.map fun e => max e.size 0).sum
theorem sumM_snoc (l : List En) (e : En) : sumM (l ++ [e]) = sumM l + max e.size 0 := by simp [sumM]
theorem sumM_nonneg (l : List En) : 0 ≤ sumM l := by
  induction l with
  | nil => simp [sumM]
  | cons e l ih => simp only [sumM, List.map_cons, List.sum_cons] at ih ⊢; omega
theorem sumM_le {l : List En} {k : Int} (hk : 0 ≤ k) (h : ∀ e ∈ l, e.size ≤ k) : sumM l ≤ k * l.length := by
  induction l with
  | nil => simp [sumM]
  | cons e l ih =>
    have h1 := h e List.mem_cons_self
    have h2 := ih (fun x hx => h x (List.mem_cons_of_mem _ hx))
    simp only [sumM, List.map_cons, List.sum_cons, List.length_cons] at h2 ⊢
    have : k * ((l.length + 1 : Nat) : Int) = k * l.length + k := by rw [Int.natCast_add, Int.mul_add]; simp
    rw [this]; omega
theorem sumC_min (l : List En) : sumC l = min (sumM l) 4194305 := by
  have : ∀ n, ∀ l : List En, l.length = n → sumC l = min (sumM l) 4194305 := by
    intro n
    induction n with
    | zero => intro l hl; obtain rfl := List.eq_nil_of_length_eq_zero hl; decide
    | succ n ih =>
      intro l hl
      rcases List.eq_nil_or_concat l with rfl | ⟨m, e, rfl⟩
      · simp at hl
      · rw [List.concat_eq_append] at hl ⊢
        have h1 := ih m (by simp at hl; omega)
        have h2 := sumM_nonneg m
        rw [sumC_snoc, sumM_snoc, h1]
        unfold capA
        omega
  exact this _ l rfl
theorem why_path {l : List En} {i : Nat} (hi : i < l.length) (h : okPath l[i].path = false) : whyE l = 9 := by
  rw [whyE_eq, if_pos]
  rw [List.all_eq_false]
  exact ⟨l[i].path, List.mem_map_of_mem (List.getElem_mem hi), by rw [h]; simp⟩
theorem all_path {l : List En} (h : ∀ i (hi : i < l.length), okPath l[i].path = true) : (l.map (·.path)).all okPath = true := by
  rw [List.all_eq_true]
  intro x hx
  obtain ⟨e, he, rfl⟩ := List.mem_map.1 hx
  obtain ⟨i, hi, rfl⟩ := List.mem_iff_getElem.1 he
  exact h i hi
theorem why_twice {l : List En} (h : ∀ i (hi : i < l.length), okPath l[i].path = true) {i : Nat} (hi : i + 1 < l.length) (hc : ¬ cmpL (psplit l[i].path) (psplit l[i + 1].path) < 0) : whyE l = 10 := by
  rw [whyE_eq, if_neg (by rw [all_path h]; simp), if_pos]
  cases hs : sortedB (l.map (·.path)) with
  | false => rfl
  | true =>
    have := ((sortedB_iff _).1 hs (i + 1) (by simpa using hi)).2 (by omega)
    simp at this hc
    omega
theorem why_rest {l : List En} (h : ∀ i (hi : i < l.length), okPath l[i].path = true) (h2 : ∀ i (hi : i + 1 < l.length), cmpL (psplit l[i].path) (psplit l[i + 1].path) < 0) :
    whyE l = if 1024 < l.length ∨ 4194304 < sumM l ∨ ¬ (∀ e ∈ l, e.size ≤ 1048576) then 7 else if ¬ (∀ e ∈ l, plainP e) then 1 else 0 := by
  have hs : sortedB (l.map (·.path)) = true := by
    rw [sortedB_iff]
    intro i hi
    have hi' : i < l.length := by simpa using hi
    refine ⟨by simpa using h i hi', fun h0 => ?_⟩
    obtain ⟨j, rfl⟩ : ∃ j, i = j + 1 := ⟨i - 1, by omega⟩
    simpa using h2 j hi'
  rw [whyE_eq, if_neg (by rw [all_path h]; simp), if_neg (by rw [hs]; simp), sumC_min]
  have e1 : (1024 < l.length ∨ 4194304 < min (sumM l) 4194305 ∨ l.all (fun e => decide (e.size ≤ 1048576)) = false) ↔ (1024 < l.length ∨ 4194304 < sumM l ∨ ¬ (∀ e ∈ l, e.size ≤ 1048576)) := by
    have : l.all (fun e => decide (e.size ≤ 1048576)) = false ↔ ¬ (∀ e ∈ l, e.size ≤ 1048576) := by
      rw [← Bool.not_eq_true, List.all_eq_true]; simp
    rw [this]
    constructor
    · rintro (h | h | h)
      · exact .inl h
      · exact .inr (.inl (by omega))
      · exact .inr (.inr h)
    · rintro (h | h | h)
      · exact .inl h
      · exact .inr (.inl (by omega))
      · exact .inr (.inr h)
  have e2 : l.all plainB = false ↔ ¬ (∀ e ∈ l, plainP e) := by
    rw [← Bool.not_eq_true, List.all_eq_true]
    simp [plainB]
  simp only [e1, e2]

set_option maxRecDepth 100000 in
set_option maxHeartbeats 12800000 in
theorem refwhy_any (A : Option Addr) (c : Nat) (l : List En) (hl : l.length ≤ 4294967296) (ok : ∀ e ∈ l, e.ok) (hx : ∀ e ∈ l, e.path.length ≤ 4294967280) (w : World) (hr : RdA 7 enL w A l) :
    Calls Tryd.prog 16 #[.slice A l.length c] w fun e w' => e = .returned (.int .i64 (whyE l)) ∧ Below w.heap.size w w' := by
  have hb := Below.refl w.heap.size w
  have Hr := Lib.hid (fun w1 (b : Below w.heap.size w w1) => hr.below b)
  have Ok := Lib.hid ok
  have Hx := Lib.hid hx
  have n1 : (l.length : Int) ≤ 4294967296 := by omega
  clear hr ok hx
  go_enter Tryd.func16, Tryd.ntmps16
  go_wp2
  go_loopg [3] l.length (fun k v wr => ∃ i : Nat, k + i = l.length ∧ v = .int .i64 i ∧ Below w.heap.size w wr ∧ Hid (∀ j (h : j < l.length), j < i → okPath l[j].path = true))
  case atStart => exact ⟨0, by omega, rfl, hb, Lib.hid (fun j h h2 => absurd h2 (Nat.not_lt_zero _))⟩
  case round =>
    clear hb
    obtain ⟨i, hk, rfl, hb, hp⟩ := hrel
    by_cases hlt : (i : Int) < (l.length : Int)
    · obtain ⟨j, rfl⟩ : ∃ j, gk = j + 1 := ⟨gk - 1, by omega⟩
      have hil : i < l.length := by omega
      have i0' : (0 : Int) ≤ (i : Int) := by omega
      obtain ⟨b, off, rfl, q, d⟩ := Hr.out _ hb i hil
      have Hk := Lib.hid hk
      have d0 := d 0 _ rfl
      rw [Nat.add_zero] at d0
      have R := Lib.hid (fun w1 => refright_any (str l[i].path) (by have := Hx.out _ (List.getElem_mem hil); show l[i].path.length ≤ _; omega) w1)
      rw [data_str] at R
      have hbad : Hid (okPath l[i].path = false → whyE l = 9) := Lib.hid (fun h => why_path hil h)
      have hp2 : Hid (okPath l[i].path = true → ∀ j (h : j < l.length), j < i + 1 → okPath l[j].path = true) := Lib.hid (fun h j hj hlt => by
        by_cases e : j = i
        · subst e; exact h
        · exact hp.out j hj (by omega))
      clear hk hp d
      generalize okPath l[i].path = y at *
      generalize l[i].path = x at *
      go_wp2_with fail
      refine (R.out _).mono ?_
      rintro e wz ⟨rfl, b⟩
      replace hb := hb.trans (b.mono hb.size)
      clear b d0
      cases y with
      | false =>
        go_wp2
        go_ret
        exact ⟨by rw [hbad.out (by trivial)]; rfl, hb⟩
      | true =>
        go_wp2
        go_roundg j
        case measure => omega
        case rel => exact ⟨i + 1, by have := Hk.out; omega, rfl, hb, Lib.hid (hp2.out (by trivial))⟩
    · have Hp := Lib.hid (fun j (h : j < l.length) => hp.out j h (by omega))
      have Ht := Lib.hid (fun (i : Nat) (hi : i + 1 < l.length) hc => why_twice Hp.out (i := i) hi hc)
      have Hrest := Lib.hid (fun h2 => why_rest (l := l) Hp.out h2)
      clear hk hp
      go_wp2
      go_loopg [4] l.length (fun k v wr => ∃ i : Nat, k + i = l.length ∧ v = .int .i64 ((i : Int) + 1) ∧ Below w.heap.size w wr ∧ Hid (∀ j (h : j + 1 < l.length), j < i → cmpL (psplit l[j].path) (psplit l[j + 1].path) < 0))
      case atStart => exact ⟨0, by omega, rfl, hb, Lib.hid (fun j h h2 => absurd h2 (Nat.not_lt_zero _))⟩
      case round =>
        clear hb hlt
        obtain ⟨i, hk, rfl, hb, hp⟩ := hrel
        by_cases hlt : (i : Int) + 1 < (l.length : Int)
        · obtain ⟨j, rfl⟩ : ∃ j, gk = j + 1 := ⟨gk - 1, by omega⟩
          have hil : i + 1 < l.length := by omega
          have hil0 : i < l.length := by omega
          have i0' : (0 : Int) ≤ (i : Int) := by omega
          have i1' : (0 : Int) ≤ (i : Int) + 1 := by omega
          have i2' : (i : Int) < (l.length : Int) := by omega
          obtain ⟨b, off, rfl, q, d⟩ := Hr.out _ hb i hil0
          obtain ⟨b', off', hA, q', d'⟩ := Hr.out _ hb (i + 1) hil
          injection hA with hA
          injection hA with hA1 hA2
          subst hA1; subst hA2
          have Hk := Lib.hid hk
          clear hk
          have d0 := d 0 _ rfl
          have d1 := d' 0 _ rfl
          rw [Nat.add_zero] at d0 d1
          have R := Lib.hid (fun w1 => refcompare_any (str l[i].path) (str l[i + 1].path) (Hx.out _ (List.getElem_mem hil0)) (Hx.out _ (List.getElem_mem hil)) w1)
          rw [data_str, data_str] at R
          have hbad : Hid (¬ cmpL (psplit l[i].path) (psplit l[i + 1].path) < 0 → whyE l = 10) := Lib.hid (fun h => Ht.out i hil (by omega))
          have hp2 : Hid (cmpL (psplit l[i].path) (psplit l[i + 1].path) < 0 → ∀ j (h : j + 1 < l.length), j < i + 1 → cmpL (psplit l[j].path) (psplit l[j + 1].path) < 0) := Lib.hid (fun h j hj hlt => by
            by_cases e : j = i
            · subst e; exact h
            · exact hp.out j hj (by omega))
          have D0 := Lib.hid d0
          have D1 := Lib.hid d1
          clear hp d d' d0 d1
          generalize cmpL (psplit l[i].path) (psplit l[i + 1].path) = r at *
          generalize l[i].path = x at *
          generalize l[i + 1].path = y at *
          go_wp2
          refine wp_region_mix (Below wr.heap.size wr) [0, 1, 2, 3, 4, 5, 6, 7, 8, 9, 10] [11, 12] mixed (by kernel_rfl) rfl ((Below.refl _ _).drew) ?_
          simp only [List.filterMap_cons, List.filterMap_nil, List.getElem?_toArray, List.getElem?_cons_succ, List.getElem?_cons_zero]
          repeat (first
            | (refine held_val ?_ rfl (fun w1 hS => ?_) ?_
               rotate_left
               · (have k1 := (hS.cell (p := ⟨b, off + i * 7, none⟩) q).trans D0.out; have k2 := (hS.cell (p := ⟨b, off + (i + 1) * 7, none⟩) q').trans D1.out
                  go_simp
                  try go_bits
                  rfl)
               simp only [Act.put, List.setIfInBounds_toArray, List.set_cons_zero, List.set_cons_succ])
            | (refine held_off rfl ?_
               simp only [Act.put, List.setIfInBounds_toArray, List.set_cons_zero, List.set_cons_succ]))
          refine held_nil (fun w4 hS => ?_)
          replace hb := hb.trans (hS.mono hb.size)
          clear hS
          go_wp2_with fail
          refine (R.out _).mono ?_
          rintro e wz ⟨rfl, b⟩
          replace hb := hb.trans (b.mono hb.size)
          clear b
          by_cases hr0 : 0 ≤ r
          · have Hz := Lib.hid (hbad.out (by omega))
            go_wp2
            go_ret
            exact ⟨by rw [Hz.out]; rfl, hb⟩
          · have Hz := Lib.hid (hp2.out (by omega))
            go_wp2
            go_roundg j
            case measure => omega
            case rel => exact ⟨i + 1, by have := Hk.out; omega, rfl, hb, Hz⟩
        · have Hz := Lib.hid (Hrest.out (fun j h => hp.out j h (by omega)))
          clear hk hp Ht Hrest Hp
          by_cases hl2 : (1024 : Int) < (l.length : Int)
          · have Hf : Hid (whyE l = 7) := Lib.hid (by rw [Hz.out, if_pos (.inl (by omega))])
            go_wp2
            go_ret
            exact ⟨by rw [Hf.out]; rfl, hb⟩
          have hl3 : (l.length : Int) ≤ 1024 := by omega
          have Hbig : Hid (∀ e ∈ l, ¬ e.size ≤ 1048576 → whyE l = 7) := Lib.hid (fun e he h => by rw [Hz.out, if_pos (.inr (.inr (fun h' => h (h' e he))))])
          have Hsum : Hid (4194304 < sumM l → whyE l = 7) := Lib.hid (fun h => by rw [Hz.out, if_pos (.inr (.inl h))])
          have Hrest : Hid ((∀ e ∈ l, e.size ≤ 1048576) → sumM l ≤ 4194304 → whyE l = if ¬ (∀ e ∈ l, plainP e) then 1 else 0) := Lib.hid (fun h1 h2 => by rw [Hz.out, if_neg (by rintro (h | h | h); omega; omega; exact h h1)])
          clear Hz hl2
          go_wp2
          go_loopg [5, 6] l.length (fun k a v wr => ∃ i : Nat, k + i = l.length ∧ v = .int .i64 i ∧ a = .int .i64 (sumM (l.take i)) ∧ Below w.heap.size w wr ∧ Hid (∀ e ∈ l.take i, e.size ≤ 1048576))
          case atStart => exact ⟨0, by omega, rfl, rfl, hb, Lib.hid (by simp)⟩
          case round =>
            clear hb hlt
            obtain ⟨i, hk, rfl, rfl, hb, hp⟩ := hrel
            have hs0 := sumM_nonneg (l.take i)
            have hs1 := sumM_le (by omega) hp.out
            have hs2 : (l.take i).length ≤ 1024 := by rw [List.length_take]; omega
            have hs3 : sumM (l.take i) ≤ 1073741824 := by omega
            clear hs1 hs2
            by_cases hlt : (i : Int) < (l.length : Int)
            · obtain ⟨j, rfl⟩ : ∃ j, gk = j + 1 := ⟨gk - 1, by omega⟩
              have hil : i < l.length := by omega
              have i0' : (0 : Int) ≤ (i : Int) := by omega
              obtain ⟨b, off, rfl, q, d⟩ := Hr.out _ hb i hil
              have Hk := Lib.hid hk
              have d6 := d 6 _ rfl
              have Hsn := Lib.hid (List.take_succ_eq_append_getElem hil)
              have hbad := Lib.hid (Hbig.out _ (List.getElem_mem hil))
              have hz := (Ok.out _ (List.getElem_mem hil)).size
              have Hss : Hid (sumM (l.take (i + 1)) = sumM (l.take i) + max l[i].size 0) := Lib.hid (by rw [Hsn.out, sumM_snoc])
              have hp2 : Hid (l[i].size ≤ 1048576 → ∀ e ∈ l.take (i + 1), e.size ≤ 1048576) := Lib.hid (fun h e he => by
                rw [Hsn.out] at he
                rcases List.mem_append.1 he with he | he
                · exact hp.out e he
                · rw [List.mem_singleton.1 he]; exact h)
              clear hk hp d
              generalize sumM (l.take i) = a at *
              generalize l[i] = x at *
              obtain ⟨path, kind, mode, time, tgt, beg, size⟩ := x
              simp only [okI] at d6 hbad hp2 hz Hss
              obtain ⟨z0, z1⟩ := hz
              by_cases hgt : 1048576 < size
              · have Hz := Lib.hid (hbad.out (by omega))
                go_wp2
                go_ret
                exact ⟨by rw [Hz.out]; rfl, hb⟩
              · have Hz := Lib.hid (hp2.out (by omega))
                go_wp2
                go_roundg j
                case measure => omega
                case rel => exact ⟨i + 1, by have := Hk.out; omega, rfl, congrArg (Value.int .i64) (by rw [Hss.out]), hb, Hz⟩
            · obtain rfl : i = l.length := by omega
              rw [List.take_length] at hp hs0 hs3
              rw [List.take_length]
              have HR := Lib.hid (Hrest.out hp.out)
              clear hk Hbig Hrest
              generalize sumM l = S at *
              by_cases hgt : 4194304 < S
              · have Hz := Lib.hid (Hsum.out hgt)
                go_wp2
                go_ret
                exact ⟨by rw [Hz.out]; rfl, hb⟩
              · have Hz := Lib.hid (HR.out (by omega))
                clear HR Hsum
                go_wp2
                go_loopg [7] l.length (fun k v wr => ∃ i : Nat, k + i = l.length ∧ v = .int .i64 i ∧ Below w.heap.size w wr ∧ Hid (∀ e ∈ l.take i, plainP e))
                case atStart => exact ⟨0, by omega, rfl, hb, Lib.hid (by simp)⟩
                case round =>
                  clear hb hlt hgt hs0 hs3
                  obtain ⟨i, hk, rfl, hb, hq⟩ := hrel
                  by_cases hlt : (i : Int) < (l.length : Int)
                  · obtain ⟨j, rfl⟩ : ∃ j, gk = j + 1 := ⟨gk - 1, by omega⟩
                    have hil : i < l.length := by omega
                    have i0' : (0 : Int) ≤ (i : Int) := by omega
                    obtain ⟨b, off, rfl, q, d⟩ := Hr.out _ hb i hil
                    have Hk := Lib.hid hk
                    have Hsn := Lib.hid (List.take_succ_eq_append_getElem hil)
                    have hbad : Hid (¬ plainP l[i] → whyE l = 1) := Lib.hid (fun h => by rw [Hz.out, if_pos (fun h' => h (h' _ (List.getElem_mem hil)))])
                    have hq2 : Hid (plainP l[i] → ∀ e ∈ l.take (i + 1), plainP e) := Lib.hid (fun h e he => by
                      rw [Hsn.out] at he
                      rcases List.mem_append.1 he with he | he
                      · exact hq.out e he
                      · rw [List.mem_singleton.1 he]; exact h)
                    have hsz := hp.out _ (List.getElem_mem hil)
                    have hok := Ok.out _ (List.getElem_mem hil)
                    have hz := hok.size
                    have hzk := hok.kind
                    have htl := hok.tgt
                    clear hk hq hok Hz Hsn
                    generalize l[i] = x at *
                    obtain ⟨path, kind, mode, time, tgt, beg, size⟩ := x
                    obtain ⟨d0, d1, d2, d3, d4, d5, d6⟩ := RdA.cells7 d
                    simp only [okI] at d0 d1 d2 d3 d4 d5 d6 hbad hq2 hsz hz hzk htl
                    have Hpl : Hid (plainP ⟨path, kind, mode, time, tgt, beg, size⟩ ↔ (0 ≤ mode ∧ mode < 4096 ∧ 0 ≤ time ∧ time ≤ 1099511627775 ∧ 0 ≤ size ∧ size ≤ 1048576 ∧ ((kind = 1 ∧ tgt.length = 0) ∨ (kind = 2 ∧ tgt.length = 0 ∧ size = 0) ∨ (kind = 3 ∧ 1 ≤ tgt.length ∧ tgt.length ≤ 256 ∧ size = 0)))) := Lib.hid (by unfold plainP; simp only [List.length_eq_zero_iff])
                    obtain ⟨z0, z1⟩ := hz
                    obtain ⟨z2, z3⟩ := hzk
                    clear d
                    have hb1 := hb.alloc hb.size (.cells #[.string (str path), .int .i64 kind, .int .i64 mode, .int .i64 time, .string (str tgt), .int .i64 beg, .int .i64 size] 63)
                    have tl : ((str tgt).size : Int) ≤ 9223372036854775807 := by show (tgt.length : Int) ≤ _; omega
                    have Tl := Lib.hid (show (str tgt).size = tgt.length from rfl)
                    clear htl hb
                    by_cases m1 : mode < 0
                    · go_wp2
                      go_ret
                      exact ⟨by rw [hbad.out (by rw [Hpl.out]; have := Tl.out; omega)]; rfl, hb1⟩
                    by_cases m2 : 4095 < mode
                    · go_wp2
                      go_ret
                      exact ⟨by rw [hbad.out (by rw [Hpl.out]; have := Tl.out; omega)]; rfl, hb1⟩
                    by_cases m3 : time < 0
                    · go_wp2
                      go_ret
                      exact ⟨by rw [hbad.out (by rw [Hpl.out]; have := Tl.out; omega)]; rfl, hb1⟩
                    by_cases m4 : 1099511627775 < time
                    · go_wp2
                      go_ret
                      exact ⟨by rw [hbad.out (by rw [Hpl.out]; have := Tl.out; omega)]; rfl, hb1⟩
                    by_cases m5 : size < 0
                    · go_wp2
                      go_ret
                      exact ⟨by rw [hbad.out (by rw [Hpl.out]; have := Tl.out; omega)]; rfl, hb1⟩
                    by_cases m6 : kind < 1
                    · go_wp2
                      go_ret
                      exact ⟨by rw [hbad.out (by rw [Hpl.out]; have := Tl.out; omega)]; rfl, hb1⟩
                    by_cases m7 : 3 < kind
                    · go_wp2
                      go_ret
                      exact ⟨by rw [hbad.out (by rw [Hpl.out]; have := Tl.out; omega)]; rfl, hb1⟩
                    by_cases ht0 : tgt = []
                    · subst ht0
                      have e0 : str [] = ByteArray.empty := rfl
                      rw [e0] at d4 hb1 tl
                      have Tl : Hid (([] : List UInt8).length = 0) := Lib.hid rfl
                      by_cases k1 : kind = 1
                      · subst k1
                        go_wp2
                        go_roundg j
                        case measure => omega
                        case rel => exact ⟨i + 1, by have := Hk.out; omega, rfl, hb1, Lib.hid (hq2.out (by rw [Hpl.out]; have := Tl.out; first | omega | (simp; omega) | simp))⟩
                      have k1' : (kind == 1) = false := by simpa using k1
                      by_cases s0 : 0 < size
                      · go_wp2
                        go_ret
                        exact ⟨by rw [hbad.out (by rw [Hpl.out]; have := Tl.out; omega)]; rfl, hb1⟩
                      by_cases k2 : kind = 2
                      · subst k2
                        go_wp2
                        go_roundg j
                        case measure => omega
                        case rel => exact ⟨i + 1, by have := Hk.out; omega, rfl, hb1, Lib.hid (hq2.out (by rw [Hpl.out]; have := Tl.out; first | omega | (simp; omega) | simp))⟩
                      obtain rfl : kind = 3 := by omega
                      go_wp2
                      go_ret
                      exact ⟨by rw [hbad.out (by rw [Hpl.out]; have := Tl.out; omega)]; rfl, hb1⟩
                    have hp0 : 0 < tgt.length := List.length_pos_iff.2 ht0
                    have s1 : 0 < (str tgt).size := hp0
                    have s1i : (0 : Int) < ((str tgt).size : Int) := by omega
                    have s1' : (((str tgt).size : Int) == 0) = false := by rw [beq_eq_false_iff_ne]; omega
                    have s1n : ((str tgt).size == 0) = false := by rw [beq_eq_false_iff_ne]; omega
                    by_cases k1 : kind = 1
                    · subst k1
                      go_wp2
                      go_ret
                      exact ⟨by rw [hbad.out (by rw [Hpl.out]; have := Tl.out; omega)]; rfl, hb1⟩
                    have k1' : (kind == 1) = false := by simpa using k1
                    by_cases s0 : 0 < size
                    · go_wp2
                      go_ret
                      exact ⟨by rw [hbad.out (by rw [Hpl.out]; have := Tl.out; omega)]; rfl, hb1⟩
                    by_cases k2 : kind = 2
                    · subst k2
                      go_wp2
                      go_ret
                      exact ⟨by rw [hbad.out (by rw [Hpl.out]; have := Tl.out; omega)]; rfl, hb1⟩
                    obtain rfl : kind = 3 := by omega
                    by_cases s2 : (256 : Int) < ((str tgt).size : Int)
                    · go_wp2
                      go_ret
                      exact ⟨by rw [hbad.out (by rw [Hpl.out]; have := Tl.out; omega)]; rfl, hb1⟩
                    go_wp2
                    go_roundg j
                    case measure => omega
                    case rel => exact ⟨i + 1, by have := Hk.out; omega, rfl, hb1, Lib.hid (hq2.out (by rw [Hpl.out]; have := Tl.out; first | omega | (simp; omega) | simp))⟩
                  · have Hw : Hid (whyE l = 0) := Lib.hid (by rw [Hz.out, if_neg]; intro h; apply h; have h2 := hq.out; rw [List.take_of_length_le (by omega)] at h2; exact h2)
                    go_wp2
                    go_ret
                    exact ⟨by rw [Hw.out]; rfl, hb⟩
end Go.Proofs.YtfppancidgamjaaDoor
