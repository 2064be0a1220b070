/- Texts of one proof, merged: XE8 XE9 XEa XEb XEc XEd XEe XQp XEf XEi XEj XEk XO7 XO8 XG7. -/
import Derived.Test.YtmppagiaonbggaaDoorWe
import Derived.Laws.StructEq
import Derived.Lib.SmallJoins
import Derived.Laws.IdiomStrings
import Derived.Lib.BufferRead
/- The walk over the reference's Why. -/
namespace Go.Proofs.YtmppagiaonbggaaDoor
set_option linter.unusedVariables false
set_option linter.unusedSimpArgs false
set_option maxRecDepth 100000
open Go.RowKit

def sumM (l : List En) : Int := (l.map fun e => max e.size 0).sum
theorem sumM_snoc (l : List En) (e : En) : sumM (l ++ [e]) = sumM l + max e.size 0 := by simp [sumM]
theorem sumM_nonneg (l : List En) : 0 ≤ sumM l := by
  induction l with
  | nil => simp [sumM]
  | cons e l ih => simp only [sumM, List.map_cons, List.sum_cons] at ih ⊢; omega
theorem sumM_le {l : List En} {k : Int} (hk : 0 ≤ k) (h : ∀ e ∈ l, e.size ≤ k) : sumM l ≤ k * l.length := by
  induction l with
  | nil => simp [sumM]
  | cons e l ih =>
    have h1 := h e List.mem_cons_self
    have h2 := ih (fun x hx => h x (List.mem_cons_of_mem _ hx))
    simp only [sumM, List.map_cons, List.sum_cons, List.length_cons] at h2 ⊢
    have : k * ((l.length + 1 : Nat) : Int) = k * l.length + k := by rw [Int.natCast_add, Int.mul_add]; simp
    rw [this]; omega
theorem sumC_min (l : List En) : sumC l = min (sumM l) 4194305 := by
  have : ∀ n, ∀ l : List En, l.length = n → sumC l = min (sumM l) 4194305 := by
    intro n
    induction n with
    | zero => intro l hl; obtain rfl := List.eq_nil_of_length_eq_zero hl; decide
    | succ n ih =>
      intro l hl
      rcases List.eq_nil_or_concat l with rfl | ⟨m, e, rfl⟩
      · simp at hl
      · rw [List.concat_eq_append] at hl ⊢
        have h1 := ih m (by simp at hl; omega)
        have h2 := sumM_nonneg m
        rw [sumC_snoc, sumM_snoc, h1]
        unfold capA
        omega
  exact this _ l rfl
theorem why_path {l : List En} {i : Nat} (hi : i < l.length) (h : okPath l[i].path = false) : whyE l = 9 := by
  rw [whyE_eq, if_pos]
  rw [List.all_eq_false]
  exact ⟨l[i].path, List.mem_map_of_mem (List.getElem_mem hi), by rw [h]; simp⟩
theorem all_path {l : List En} (h : ∀ i (hi : i < l.length), okPath l[i].path = true) : (l.map (·.path)).all okPath = true := by
  rw [List.all_eq_true]
  intro x hx
  obtain ⟨e, he, rfl⟩ := List.mem_map.1 hx
  obtain ⟨i, hi, rfl⟩ := List.mem_iff_getElem.1 he
  exact h i hi
theorem why_twice {l : List En} (h : ∀ i (hi : i < l.length), okPath l[i].path = true) {i : Nat} (hi : i + 1 < l.length) (hc : ¬ cmpL (psplit l[i].path) (psplit l[i + 1].path) < 0) : whyE l = 10 := by
  rw [whyE_eq, if_neg (by rw [all_path h]; simp), if_pos]
  cases hs : sortedB (l.map (·.path)) with
  | false => rfl
  | true =>
    have := ((sortedB_iff _).1 hs (i + 1) (by simpa using hi)).2 (by omega)
    simp at this hc
    omega
theorem why_rest {l : List En} (h : ∀ i (hi : i < l.length), okPath l[i].path = true) (h2 : ∀ i (hi : i + 1 < l.length), cmpL (psplit l[i].path) (psplit l[i + 1].path) < 0) :
    whyE l = if 1024 < l.length ∨ 4194304 < sumM l ∨ ¬ (∀ e ∈ l, e.size ≤ 1048576) then 7 else if ¬ (∀ e ∈ l, plainP e) then 1 else 0 := by
  have hs : sortedB (l.map (·.path)) = true := by
    rw [sortedB_iff]
    intro i hi
    have hi' : i < l.length := by simpa using hi
    refine ⟨by simpa using h i hi', fun h0 => ?_⟩
    obtain ⟨j, rfl⟩ : ∃ j, i = j + 1 := ⟨i - 1, by omega⟩
    simpa using h2 j hi'
  rw [whyE_eq, if_neg (by rw [all_path h]; simp), if_neg (by rw [hs]; simp), sumC_min]
  have e1 : (1024 < l.length ∨ 4194304 < min (sumM l) 4194305 ∨ l.all (fun e => decide (e.size ≤ 1048576)) = false) ↔ (1024 < l.length ∨ 4194304 < sumM l ∨ ¬ (∀ e ∈ l, e.size ≤ 1048576)) := by
    have : l.all (fun e => decide (e.size ≤ 1048576)) = false ↔ ¬ (∀ e ∈ l, e.size ≤ 1048576) := by
      rw [← Bool.not_eq_true, List.all_eq_true]; simp
    rw [this]
    constructor
    · rintro (h | h | h)
      · exact .inl h
      · exact .inr (.inl (by omega))
      · exact .inr (.inr h)
    · rintro (h | h | h)
      · exact .inl h
      · exact .inr (.inl (by omega))
      · exact .inr (.inr h)
  have e2 : l.all plainB = false ↔ ¬ (∀ e ∈ l, plainP e) := by
    rw [← Bool.not_eq_true, List.all_eq_true]
    simp [plainB]
  simp only [e1, e2]

set_option maxRecDepth 100000 in
set_option maxHeartbeats 12800000 in
theorem refwhy_any (A : Option Addr) (c : Nat) (l : List En) (hl : l.length ≤ 4294967296) (ok : ∀ e ∈ l, e.ok) (hx : ∀ e ∈ l, e.path.length ≤ 4294967280) (w : World) (hr : RdA 7 enL w A l) :
    Calls Tryd.prog 13 #[.slice A l.length c] w fun e w' => e = .returned (.int .i64 (whyE l)) ∧ Below w.heap.size w w' := by
  have hb := Below.refl w.heap.size w
  have Hr := Lib.hid (fun w1 (b : Below w.heap.size w w1) => hr.below b)
  have Ok := Lib.hid ok
  have Hx := Lib.hid hx
  have n1 : (l.length : Int) ≤ 4294967296 := by omega
  clear hr ok hx
  go_enter Tryd.func13, Tryd.ntmps13
  go_wp2
  go_loopg [3] l.length (fun k v wr => ∃ i : Nat, k + i = l.length ∧ v = .int .i64 i ∧ Below w.heap.size w wr ∧ Hid (∀ j (h : j < l.length), j < i → okPath l[j].path = true))
  case atStart => exact ⟨0, by omega, rfl, hb, Lib.hid (fun j h h2 => absurd h2 (Nat.not_lt_zero _))⟩
  case round =>
    clear hb
    obtain ⟨i, hk, rfl, hb, hp⟩ := hrel
    by_cases hlt : (i : Int) < (l.length : Int)
    · obtain ⟨j, rfl⟩ : ∃ j, gk = j + 1 := ⟨gk - 1, by omega⟩
      have hil : i < l.length := by omega
      have i0' : (0 : Int) ≤ (i : Int) := by omega
      obtain ⟨b, off, rfl, q, d⟩ := Hr.out _ hb i hil
      have Hk := Lib.hid hk
      have d0 := d 0 _ rfl
      rw [Nat.add_zero] at d0
      have R := Lib.hid (fun w1 => refright_any (str l[i].path) (by have := Hx.out _ (List.getElem_mem hil); show l[i].path.length ≤ _; omega) w1)
      rw [data_str] at R
      have hbad : Hid (okPath l[i].path = false → whyE l = 9) := Lib.hid (fun h => why_path hil h)
      have hp2 : Hid (okPath l[i].path = true → ∀ j (h : j < l.length), j < i + 1 → okPath l[j].path = true) := Lib.hid (fun h j hj hlt => by
        by_cases e : j = i
        · subst e; exact h
        · exact hp.out j hj (by omega))
      clear hk hp d
      generalize okPath l[i].path = y at *
      generalize l[i].path = x at *
      go_wp2_with fail
      refine (R.out _).mono ?_
      rintro e wz ⟨rfl, b⟩
      replace hb := hb.trans (b.mono hb.size)
      clear b d0
      cases y with
      | false =>
        go_wp2
        go_ret
        exact ⟨by rw [hbad.out (by trivial)]; rfl, hb⟩
      | true =>
        go_wp2
        go_roundg j
        case measure => omega
        case rel => exact ⟨i + 1, by have := Hk.out; omega, rfl, hb, Lib.hid (hp2.out (by trivial))⟩
    · have Hp := Lib.hid (fun j (h : j < l.length) => hp.out j h (by omega))
      have Ht := Lib.hid (fun (i : Nat) (hi : i + 1 < l.length) hc => why_twice Hp.out (i := i) hi hc)
      have Hrest := Lib.hid (fun h2 => why_rest (l := l) Hp.out h2)
      clear hk hp
      go_wp2
      go_loopg [4] l.length (fun k v wr => ∃ i : Nat, k + i = l.length ∧ v = .int .i64 ((i : Int) + 1) ∧ Below w.heap.size w wr ∧ Hid (∀ j (h : j + 1 < l.length), j < i → cmpL (psplit l[j].path) (psplit l[j + 1].path) < 0))
      case atStart => exact ⟨0, by omega, rfl, hb, Lib.hid (fun j h h2 => absurd h2 (Nat.not_lt_zero _))⟩
      case round =>
        clear hb hlt
        obtain ⟨i, hk, rfl, hb, hp⟩ := hrel
        by_cases hlt : (i : Int) + 1 < (l.length : Int)
        · obtain ⟨j, rfl⟩ : ∃ j, gk = j + 1 := ⟨gk - 1, by omega⟩
          have hil : i + 1 < l.length := by omega
          have hil0 : i < l.length := by omega
          have i0' : (0 : Int) ≤ (i : Int) := by omega
          have i1' : (0 : Int) ≤ (i : Int) + 1 := by omega
          have i2' : (i : Int) < (l.length : Int) := by omega
          obtain ⟨b, off, rfl, q, d⟩ := Hr.out _ hb i hil0
          obtain ⟨b', off', hA, q', d'⟩ := Hr.out _ hb (i + 1) hil
          injection hA with hA
          injection hA with hA1 hA2
          subst hA1; subst hA2
          have Hk := Lib.hid hk
          clear hk
          have d0 := d 0 _ rfl
          have d1 := d' 0 _ rfl
          rw [Nat.add_zero] at d0 d1
          have R := Lib.hid (fun w1 => refcompare_any (str l[i].path) (str l[i + 1].path) (Hx.out _ (List.getElem_mem hil0)) (Hx.out _ (List.getElem_mem hil)) w1)
          rw [data_str, data_str] at R
          have hbad : Hid (¬ cmpL (psplit l[i].path) (psplit l[i + 1].path) < 0 → whyE l = 10) := Lib.hid (fun h => Ht.out i hil (by omega))
          have hp2 : Hid (cmpL (psplit l[i].path) (psplit l[i + 1].path) < 0 → ∀ j (h : j + 1 < l.length), j < i + 1 → cmpL (psplit l[j].path) (psplit l[j + 1].path) < 0) := Lib.hid (fun h j hj hlt => by
            by_cases e : j = i
            · subst e; exact h
            · exact hp.out j hj (by omega))
          have D0 := Lib.hid d0
          have D1 := Lib.hid d1
          clear hp d d' d0 d1
          generalize cmpL (psplit l[i].path) (psplit l[i + 1].path) = r at *
          generalize l[i].path = x at *
          generalize l[i + 1].path = y at *
          go_wp2
          refine wp_region_mix (Below wr.heap.size wr) [0, 1, 2, 3, 4, 5, 6, 7, 8, 9, 10] [11, 12] mixed (by kernel_rfl) rfl ((Below.refl _ _).drew) ?_
          simp only [List.filterMap_cons, List.filterMap_nil, List.getElem?_toArray, List.getElem?_cons_succ, List.getElem?_cons_zero]
          repeat (first
            | (refine held_val ?_ rfl (fun w1 hS => ?_) ?_
               rotate_left
               · (have k1 := (hS.cell (p := ⟨b, off + i * 7, none⟩) q).trans D0.out; have k2 := (hS.cell (p := ⟨b, off + (i + 1) * 7, none⟩) q').trans D1.out
                  go_simp
                  try go_bits
                  rfl)
               simp only [Act.put, List.setIfInBounds_toArray, List.set_cons_zero, List.set_cons_succ])
            | (refine held_off rfl ?_
               simp only [Act.put, List.setIfInBounds_toArray, List.set_cons_zero, List.set_cons_succ]))
          refine held_nil (fun w4 hS => ?_)
          replace hb := hb.trans (hS.mono hb.size)
          clear hS
          go_wp2_with fail
          refine (R.out _).mono ?_
          rintro e wz ⟨rfl, b⟩
          replace hb := hb.trans (b.mono hb.size)
          clear b
          by_cases hr0 : 0 ≤ r
          · have Hz := Lib.hid (hbad.out (by omega))
            go_wp2
            go_ret
            exact ⟨by rw [Hz.out]; rfl, hb⟩
          · have Hz := Lib.hid (hp2.out (by omega))
            go_wp2
            go_roundg j
            case measure => omega
            case rel => exact ⟨i + 1, by have := Hk.out; omega, rfl, hb, Hz⟩
        · have Hz := Lib.hid (Hrest.out (fun j h => hp.out j h (by omega)))
          clear hk hp Ht Hrest Hp
          by_cases hl2 : (1024 : Int) < (l.length : Int)
          · have Hf : Hid (whyE l = 7) := Lib.hid (by rw [Hz.out, if_pos (.inl (by omega))])
            go_wp2
            go_ret
            exact ⟨by rw [Hf.out]; rfl, hb⟩
          have hl3 : (l.length : Int) ≤ 1024 := by omega
          have Hbig : Hid (∀ e ∈ l, ¬ e.size ≤ 1048576 → whyE l = 7) := Lib.hid (fun e he h => by rw [Hz.out, if_pos (.inr (.inr (fun h' => h (h' e he))))])
          have Hsum : Hid (4194304 < sumM l → whyE l = 7) := Lib.hid (fun h => by rw [Hz.out, if_pos (.inr (.inl h))])
          have Hrest : Hid ((∀ e ∈ l, e.size ≤ 1048576) → sumM l ≤ 4194304 → whyE l = if ¬ (∀ e ∈ l, plainP e) then 1 else 0) := Lib.hid (fun h1 h2 => by rw [Hz.out, if_neg (by rintro (h | h | h); omega; omega; exact h h1)])
          clear Hz hl2
          go_wp2
          go_loopg [5, 6] l.length (fun k a v wr => ∃ i : Nat, k + i = l.length ∧ v = .int .i64 i ∧ a = .int .i64 (sumM (l.take i)) ∧ Below w.heap.size w wr ∧ Hid (∀ e ∈ l.take i, e.size ≤ 1048576))
          case atStart => exact ⟨0, by omega, rfl, rfl, hb, Lib.hid (by simp)⟩
          case round =>
            clear hb hlt
            obtain ⟨i, hk, rfl, rfl, hb, hp⟩ := hrel
            have hs0 := sumM_nonneg (l.take i)
            have hs1 := sumM_le (by omega) hp.out
            have hs2 : (l.take i).length ≤ 1024 := by rw [List.length_take]; omega
            have hs3 : sumM (l.take i) ≤ 1073741824 := by omega
            clear hs1 hs2
            by_cases hlt : (i : Int) < (l.length : Int)
            · obtain ⟨j, rfl⟩ : ∃ j, gk = j + 1 := ⟨gk - 1, by omega⟩
              have hil : i < l.length := by omega
              have i0' : (0 : Int) ≤ (i : Int) := by omega
              obtain ⟨b, off, rfl, q, d⟩ := Hr.out _ hb i hil
              have Hk := Lib.hid hk
              have d6 := d 6 _ rfl
              have Hsn := Lib.hid (List.take_succ_eq_append_getElem hil)
              have hbad := Lib.hid (Hbig.out _ (List.getElem_mem hil))
              have hz := (Ok.out _ (List.getElem_mem hil)).size
              have Hss : Hid (sumM (l.take (i + 1)) = sumM (l.take i) + max l[i].size 0) := Lib.hid (by rw [Hsn.out, sumM_snoc])
              have hp2 : Hid (l[i].size ≤ 1048576 → ∀ e ∈ l.take (i + 1), e.size ≤ 1048576) := Lib.hid (fun h e he => by
                rw [Hsn.out] at he
                rcases List.mem_append.1 he with he | he
                · exact hp.out e he
                · rw [List.mem_singleton.1 he]; exact h)
              clear hk hp d
              generalize sumM (l.take i) = a at *
              generalize l[i] = x at *
              obtain ⟨path, kind, mode, time, tgt, beg, size⟩ := x
              simp only [okI] at d6 hbad hp2 hz Hss
              obtain ⟨z0, z1⟩ := hz
              by_cases hgt : 1048576 < size
              · have Hz := Lib.hid (hbad.out (by omega))
                go_wp2
                go_ret
                exact ⟨by rw [Hz.out]; rfl, hb⟩
              · have Hz := Lib.hid (hp2.out (by omega))
                go_wp2
                go_roundg j
                case measure => omega
                case rel => exact ⟨i + 1, by have := Hk.out; omega, rfl, congrArg (Value.int .i64) (by rw [Hss.out]), hb, Hz⟩
            · obtain rfl : i = l.length := by omega
              rw [List.take_length] at hp hs0 hs3
              rw [List.take_length]
              have HR := Lib.hid (Hrest.out hp.out)
              clear hk Hbig Hrest
              generalize sumM l = S at *
              by_cases hgt : 4194304 < S
              · have Hz := Lib.hid (Hsum.out hgt)
                go_wp2
                go_ret
                exact ⟨by rw [Hz.out]; rfl, hb⟩
              · have Hz := Lib.hid (HR.out (by omega))
                clear HR Hsum
                go_wp2
                go_loopg [7] l.length (fun k v wr => ∃ i : Nat, k + i = l.length ∧ v = .int .i64 i ∧ Below w.heap.size w wr ∧ Hid (∀ e ∈ l.take i, plainP e))
                case atStart => exact ⟨0, by omega, rfl, hb, Lib.hid (by simp)⟩
                case round =>
                  clear hb hlt hgt hs0 hs3
                  obtain ⟨i, hk, rfl, hb, hq⟩ := hrel
                  by_cases hlt : (i : Int) < (l.length : Int)
                  · obtain ⟨j, rfl⟩ : ∃ j, gk = j + 1 := ⟨gk - 1, by omega⟩
                    have hil : i < l.length := by omega
                    have i0' : (0 : Int) ≤ (i : Int) := by omega
                    obtain ⟨b, off, rfl, q, d⟩ := Hr.out _ hb i hil
                    have Hk := Lib.hid hk
                    have Hsn := Lib.hid (List.take_succ_eq_append_getElem hil)
                    have hbad : Hid (¬ plainP l[i] → whyE l = 1) := Lib.hid (fun h => by rw [Hz.out, if_pos (fun h' => h (h' _ (List.getElem_mem hil)))])
                    have hq2 : Hid (plainP l[i] → ∀ e ∈ l.take (i + 1), plainP e) := Lib.hid (fun h e he => by
                      rw [Hsn.out] at he
                      rcases List.mem_append.1 he with he | he
                      · exact hq.out e he
                      · rw [List.mem_singleton.1 he]; exact h)
                    have hsz := hp.out _ (List.getElem_mem hil)
                    have hok := Ok.out _ (List.getElem_mem hil)
                    have hz := hok.size
                    have hzk := hok.kind
                    have htl := hok.tgt
                    clear hk hq hok Hz Hsn
                    generalize l[i] = x at *
                    obtain ⟨path, kind, mode, time, tgt, beg, size⟩ := x
                    obtain ⟨d0, d1, d2, d3, d4, d5, d6⟩ := RdA.cells7 d
                    simp only [okI] at d0 d1 d2 d3 d4 d5 d6 hbad hq2 hsz hz hzk htl
                    have Hpl : Hid (plainP ⟨path, kind, mode, time, tgt, beg, size⟩ ↔ (0 ≤ mode ∧ mode < 4096 ∧ 0 ≤ time ∧ time ≤ 1099511627775 ∧ 0 ≤ size ∧ size ≤ 1048576 ∧ ((kind = 1 ∧ tgt.length = 0) ∨ (kind = 2 ∧ tgt.length = 0 ∧ size = 0) ∨ (kind = 3 ∧ 1 ≤ tgt.length ∧ tgt.length ≤ 256 ∧ size = 0)))) := Lib.hid (by unfold plainP; simp only [List.length_eq_zero_iff])
                    obtain ⟨z0, z1⟩ := hz
                    obtain ⟨z2, z3⟩ := hzk
                    clear d
                    have hb1 := hb.alloc hb.size (.cells #[.string (str path), .int .i64 kind, .int .i64 mode, .int .i64 time, .string (str tgt), .int .i64 beg, .int .i64 size] 62)
                    have tl : ((str tgt).size : Int) ≤ 9223372036854775807 := by show (tgt.length : Int) ≤ _; omega
                    have Tl := Lib.hid (show (str tgt).size = tgt.length from rfl)
                    clear htl hb
                    by_cases m1 : mode < 0
                    · go_wp2
                      go_ret
                      exact ⟨by rw [hbad.out (by rw [Hpl.out]; have := Tl.out; omega)]; rfl, hb1⟩
                    by_cases m2 : 4095 < mode
                    · go_wp2
                      go_ret
                      exact ⟨by rw [hbad.out (by rw [Hpl.out]; have := Tl.out; omega)]; rfl, hb1⟩
                    by_cases m3 : time < 0
                    · go_wp2
                      go_ret
                      exact ⟨by rw [hbad.out (by rw [Hpl.out]; have := Tl.out; omega)]; rfl, hb1⟩
                    by_cases m4 : 1099511627775 < time
                    · go_wp2
                      go_ret
                      exact ⟨by rw [hbad.out (by rw [Hpl.out]; have := Tl.out; omega)]; rfl, hb1⟩
                    by_cases m5 : size < 0
                    · go_wp2
                      go_ret
                      exact ⟨by rw [hbad.out (by rw [Hpl.out]; have := Tl.out; omega)]; rfl, hb1⟩
                    by_cases m6 : kind < 1
                    · go_wp2
                      go_ret
                      exact ⟨by rw [hbad.out (by rw [Hpl.out]; have := Tl.out; omega)]; rfl, hb1⟩
                    by_cases m7 : 3 < kind
                    · go_wp2
                      go_ret
                      exact ⟨by rw [hbad.out (by rw [Hpl.out]; have := Tl.out; omega)]; rfl, hb1⟩
                    by_cases ht0 : tgt = []
                    · subst ht0
                      have e0 : str [] = ByteArray.empty := rfl
                      rw [e0] at d4 hb1 tl
                      have Tl : Hid (([] : List UInt8).length = 0) := Lib.hid rfl
                      by_cases k1 : kind = 1
                      · subst k1
                        go_wp2
                        go_roundg j
                        case measure => omega
                        case rel => exact ⟨i + 1, by have := Hk.out; omega, rfl, hb1, Lib.hid (hq2.out (by rw [Hpl.out]; have := Tl.out; first | omega | (simp; omega) | simp))⟩
                      have k1' : (kind == 1) = false := by simpa using k1
                      by_cases s0 : 0 < size
                      · go_wp2
                        go_ret
                        exact ⟨by rw [hbad.out (by rw [Hpl.out]; have := Tl.out; omega)]; rfl, hb1⟩
                      by_cases k2 : kind = 2
                      · subst k2
                        go_wp2
                        go_roundg j
                        case measure => omega
                        case rel => exact ⟨i + 1, by have := Hk.out; omega, rfl, hb1, Lib.hid (hq2.out (by rw [Hpl.out]; have := Tl.out; first | omega | (simp; omega) | simp))⟩
                      obtain rfl : kind = 3 := by omega
                      go_wp2
                      go_ret
                      exact ⟨by rw [hbad.out (by rw [Hpl.out]; have := Tl.out; omega)]; rfl, hb1⟩
                    have hp0 : 0 < tgt.length := List.length_pos_iff.2 ht0
                    have s1 : 0 < (str tgt).size := hp0
                    have s1i : (0 : Int) < ((str tgt).size : Int) := by omega
                    have s1' : (((str tgt).size : Int) == 0) = false := by rw [beq_eq_false_iff_ne]; omega
                    have s1n : ((str tgt).size == 0) = false := by rw [beq_eq_false_iff_ne]; omega
                    by_cases k1 : kind = 1
                    · subst k1
                      go_wp2
                      go_ret
                      exact ⟨by rw [hbad.out (by rw [Hpl.out]; have := Tl.out; omega)]; rfl, hb1⟩
                    have k1' : (kind == 1) = false := by simpa using k1
                    by_cases s0 : 0 < size
                    · go_wp2
                      go_ret
                      exact ⟨by rw [hbad.out (by rw [Hpl.out]; have := Tl.out; omega)]; rfl, hb1⟩
                    by_cases k2 : kind = 2
                    · subst k2
                      go_wp2
                      go_ret
                      exact ⟨by rw [hbad.out (by rw [Hpl.out]; have := Tl.out; omega)]; rfl, hb1⟩
                    obtain rfl : kind = 3 := by omega
                    by_cases s2 : (256 : Int) < ((str tgt).size : Int)
                    · go_wp2
                      go_ret
                      exact ⟨by rw [hbad.out (by rw [Hpl.out]; have := Tl.out; omega)]; rfl, hb1⟩
                    go_wp2
                    go_roundg j
                    case measure => omega
                    case rel => exact ⟨i + 1, by have := Hk.out; omega, rfl, hb1, Lib.hid (hq2.out (by rw [Hpl.out]; have := Tl.out; first | omega | (simp; omega) | simp))⟩
                  · have Hw : Hid (whyE l = 0) := Lib.hid (by rw [Hz.out, if_neg]; intro h; apply h; have h2 := hq.out; rw [List.take_of_length_le (by omega)] at h2; exact h2)
                    go_wp2
                    go_ret
                    exact ⟨by rw [Hw.out]; rfl, hb⟩
end Go.Proofs.YtmppagiaonbggaaDoor

/- When two entries are the same: the runs of == and != on them. -/
namespace Go.Proofs.YtmppagiaonbggaaDoor
set_option linter.unusedVariables false
set_option linter.unusedSimpArgs false
set_option maxRecDepth 100000
open Go.RowKit

theorem str_inj {a b : List UInt8} : (str a).toList == (str b).toList ↔ a = b := by
  rw [ByteArray.toList_eq, ByteArray.toList_eq, beq_iff_eq]; exact Iff.rfl
theorem str_beq (a b : List UInt8) : ((str a).toList == (str b).toList) = decide (a = b) := by
  rw [Bool.eq_iff_iff, decide_eq_true_iff]; exact str_inj
set_option maxRecDepth 100000 in
theorem eqEn (a b : En) (w : World) : (Op.equalIn 10000 71 (.agg (enL a).toArray) (.agg (enL b).toArray)).run Tryd.prog w = .ok (decide (a = b)) w := by
  obtain ⟨p1, k1, m1, t1, g1, b1, s1⟩ := a
  obtain ⟨p2, k2, m2, t2, g2, b2, s2⟩ := b
  simp only [enL]
  have u3 := Tryd.underlying3
  have u9 := Tryd.underlying9
  have hS : Tryd.prog.underlying 71 = some (.struct (Tryd.prog.fieldsOf 71)) := by kernel_rfl
  have hp : Tryd.prog.stoodInHeld 71 = false := by kernel_rfl
  rw [show (10000 : Nat) = 9999 + 1 from rfl, run_equalIn_agg w 9999 71 _ _ hS hp]
  simp only [Program.fieldsOf, Tryd.underlying71]
  go_simp
  have hs : ∀ a b : List UInt8, (str a).toList = (str b).toList ↔ a = b := fun a b => by rw [ByteArray.toList_eq, ByteArray.toList_eq]; exact Iff.rfl
  simp only [hs]
  by_cases h1 : p1 = p2
  · by_cases h2 : k1 = k2
    · by_cases h3 : m1 = m2
      · by_cases h4 : t1 = t2
        · by_cases h5 : g1 = g2
          · by_cases h6 : b1 = b2
            · by_cases h7 : s1 = s2
              · simp [h1, h2, h3, h4, h5, h6, h7]
              · simp [h1, h2, h3, h4, h5, h6, h7]
            · simp [h1, h2, h3, h4, h5, h6]
          · simp [h1, h2, h3, h4, h5]
        · simp [h1, h2, h3, h4]
      · simp [h1, h2, h3]
    · simp [h1, h2]
  · simp [h1]
set_option maxRecDepth 100000 in
theorem eqEnR (a b : En) (w : World) : (Op.equalIn 10000 62 (.agg (enL a).toArray) (.agg (enL b).toArray)).run Tryd.prog w = .ok (decide (a = b)) w := by
  obtain ⟨p1, k1, m1, t1, g1, b1, s1⟩ := a
  obtain ⟨p2, k2, m2, t2, g2, b2, s2⟩ := b
  simp only [enL]
  have u3 := Tryd.underlying3
  have u9 := Tryd.underlying9
  have hS : Tryd.prog.underlying 62 = some (.struct (Tryd.prog.fieldsOf 62)) := by kernel_rfl
  have hp : Tryd.prog.stoodInHeld 62 = false := by kernel_rfl
  rw [show (10000 : Nat) = 9999 + 1 from rfl, run_equalIn_agg w 9999 62 _ _ hS hp]
  simp only [Program.fieldsOf, Tryd.underlying62]
  go_simp
  have hs : ∀ a b : List UInt8, (str a).toList = (str b).toList ↔ a = b := fun a b => by rw [ByteArray.toList_eq, ByteArray.toList_eq]; exact Iff.rfl
  simp only [hs]
  by_cases h1 : p1 = p2
  · by_cases h2 : k1 = k2
    · by_cases h3 : m1 = m2
      · by_cases h4 : t1 = t2
        · by_cases h5 : g1 = g2
          · by_cases h6 : b1 = b2
            · by_cases h7 : s1 = s2
              · simp [h1, h2, h3, h4, h5, h6, h7]
              · simp [h1, h2, h3, h4, h5, h6, h7]
            · simp [h1, h2, h3, h4, h5, h6]
          · simp [h1, h2, h3, h4, h5]
        · simp [h1, h2, h3, h4]
      · simp [h1, h2, h3]
    · simp [h1, h2]
  · simp [h1]
theorem guardEn : Tryd.prog.eqGuardType Tryd.prog.depth 71 = false := by kernel_rfl
theorem guardEnR : Tryd.prog.eqGuardType Tryd.prog.depth 62 = false := by kernel_rfl
theorem neqEnR (a b : En) (w : World) : (binOp .neq 62 (.agg (enL a).toArray) (.agg (enL b).toArray)).run Tryd.prog w = .ok (.bool (!decide (a = b))) w := by
  rw [run_neq_struct, eqEnR]; rfl
theorem neqEn (a b : En) (w : World) : (binOp .neq 71 (.agg (enL a).toArray) (.agg (enL b).toArray)).run Tryd.prog w = .ok (.bool (!decide (a = b))) w := by
  rw [run_neq_struct, eqEn]; rfl
theorem eqlEn (a b : En) (w : World) : (binOp .eql 71 (.agg (enL a).toArray) (.agg (enL b).toArray)).run Tryd.prog w = .ok (.bool (decide (a = b))) w := by
  rw [run_eql_struct, eqEn]; rfl
end Go.Proofs.YtmppagiaonbggaaDoor

/- The walks over the reference's Fine, Total and Within. -/
namespace Go.Proofs.YtmppagiaonbggaaDoor
set_option linter.unusedVariables false
set_option linter.unusedSimpArgs false
set_option maxRecDepth 100000
open Go.RowKit

theorem within_len {l : List En} {n : Int} {i : Nat} (hf : fineB l = true) (hi : ∀ x ∈ l.take i, decide (x.beg + x.size ≤ n) = true) (h : ∀ hlt : i < l.length, ¬ l[i].beg + l[i].size ≤ n) (hle : i ≤ l.length) : (withinE l n).length = i := by
  unfold withinE
  rw [if_pos hf, takeWhile_take _ l i hi, List.length_append, List.length_take]
  by_cases hlt : i < l.length
  · rw [List.drop_eq_getElem_cons hlt, List.takeWhile_cons, if_neg (by simpa using h hlt)]
    simp; omega
  · rw [List.drop_eq_nil_of_le (by omega)]; simp; omega

end Go.Proofs.YtmppagiaonbggaaDoor

/- The walks over what the laws on entries use: Few, Short, given, told, same. -/
namespace Go.Proofs.YtmppagiaonbggaaDoor
set_option linter.unusedVariables false
set_option linter.unusedSimpArgs false
set_option maxRecDepth 100000
open Go.RowKit

/-- What every file of Go is, however great. -/
structure Fi.wide (f : Fi) : Prop where
  path : f.path.length ≤ 9223372036854775807
  kind : okI f.kind
  mode : okI f.mode
  time : okI f.time
  tgt : f.tgt.length ≤ 9223372036854775807
  data : f.data.length ≤ 9223372036854775807
def smallF (f : Fi) : Prop := f.path.length ≤ 300 ∧ f.tgt.length ≤ 300 ∧ f.data.length ≤ 200
instance (f : Fi) : Decidable (smallF f) := by unfold smallF; infer_instance
def fewP (l : List Fi) : Prop := l.length ≤ 12 ∧ ∀ f ∈ l, smallF f
instance (l : List Fi) : Decidable (fewP l) := by unfold fewP; infer_instance
theorem few_ok {l : List (Fi × Value)} (hw : ∀ x ∈ l, x.1.wide) (h : fewP (l.map (·.1))) : l.length ≤ 12 ∧ dataLen (l.map (·.1)) ≤ 2400 ∧ ∀ x ∈ l, x.1.ok := by
  refine ⟨by simpa using h.1, ?_, fun x hx => ?_⟩
  · have : ∀ m : List Fi, (∀ f ∈ m, smallF f) → dataLen m ≤ 200 * m.length := by
      intro m
      induction m with
      | nil => intro _; simp [dataLen]
      | cons f m ih =>
        intro hm
        have h1 := ih (fun g hg => hm g (List.mem_cons_of_mem _ hg))
        have h2 := (hm f List.mem_cons_self).2.2
        have h3 : dataLen (f :: m) = f.data.length + dataLen m := rfl
        rw [h3, List.length_cons]; omega
    have h1 := this _ h.2
    have h2 := h.1
    omega
  · have h1 := hw x hx
    have h2 := h.2 x.1 (List.mem_map_of_mem hx)
    exact ⟨by have := h2.1; omega, h1.kind, h1.mode, h1.time, h1.tgt⟩
theorem cells6 {w : World} {b off : Nat} {i : Nat} {x : Fi × Value} (d : ∀ j u, (fiL x)[j]? = some u → w.cell? ⟨b, off + i * 6 + j, none⟩ = some u) :
    w.cell? ⟨b, off + i * 6, none⟩ = some (.string (str x.1.path)) ∧ w.cell? ⟨b, off + i * 6 + 1, none⟩ = some (.int .i64 x.1.kind) ∧ w.cell? ⟨b, off + i * 6 + 2, none⟩ = some (.int .i64 x.1.mode) ∧ w.cell? ⟨b, off + i * 6 + 3, none⟩ = some (.int .i64 x.1.time) ∧
    w.cell? ⟨b, off + i * 6 + 4, none⟩ = some x.2 ∧ w.cell? ⟨b, off + i * 6 + 5, none⟩ = some (.string (str x.1.tgt)) :=
  ⟨d 0 _ rfl, d 1 _ rfl, d 2 _ rfl, d 3 _ rfl, d 4 _ rfl, d 5 _ rfl⟩

set_option maxRecDepth 100000 in
set_option maxHeartbeats 1600000 in
theorem few_any (A : Option Addr) (c : Nat) (l : List (Fi × Value)) (hl : l.length ≤ 9223372036854775807) (hw : ∀ x ∈ l, x.1.wide) (w : World) (hr : RdF w A l) :
    Calls Tryd.prog 9 #[.slice A l.length c] w fun e w' => e = .returned (.bool (decide (fewP (l.map (·.1))))) ∧ w = w' := by
  have Hr := Lib.hid hr
  have Hw := Lib.hid hw
  have n1 : (l.length : Int) ≤ 9223372036854775807 := by omega
  have Hbad : Hid (∀ x ∈ l, ¬ smallF x.1 → decide (fewP (l.map (·.1))) = false) := Lib.hid (fun x hx h => decide_eq_false (fun h' => h (h'.2 _ (List.mem_map_of_mem hx))))
  have Hlong : Hid (12 < l.length → decide (fewP (l.map (·.1))) = false) := Lib.hid (fun h => decide_eq_false (fun h' => by have := h'.1; simp at this; omega))
  have Hgood : Hid (l.length ≤ 12 → (∀ x ∈ l, smallF x.1) → decide (fewP (l.map (·.1))) = true) := Lib.hid (fun h1 h2 => decide_eq_true ⟨by simpa using h1, fun f hf => by obtain ⟨x, hx, rfl⟩ := List.mem_map.1 hf; exact h2 x hx⟩)
  clear hr hw
  go_enter Tryd.func9, Tryd.ntmps9
  go_wp2
  go_loopg [3] l.length (fun k v wr => ∃ i : Nat, k + i = l.length ∧ i ≤ 13 ∧ v = .int .i64 i ∧ wr = w ∧ Hid (∀ x ∈ l.take i, smallF x.1))
  case atStart => exact ⟨0, by omega, by omega, rfl, rfl, Lib.hid (by simp)⟩
  case round =>
    obtain ⟨i, hk, hi13, rfl, rfl, hq⟩ := hrel
    have i0' : (0 : Int) ≤ (i : Int) := by omega
    by_cases hlt : (i : Int) < (l.length : Int)
    · by_cases h12 : (i : Int) ≤ 12
      · obtain ⟨j, rfl⟩ : ∃ j, gk = j + 1 := ⟨gk - 1, by omega⟩
        have hil : i < l.length := by omega
        obtain ⟨b, off, rfl, q, d⟩ := Hr.out.1 i hil
        obtain ⟨Ad, cd, hdv⟩ := Hr.out.get i hil
        have Hk := Lib.hid hk
        have hwi := Hw.out _ (List.getElem_mem hil)
        have w1 := hwi.path
        have w2 := hwi.tgt
        have w3 := hwi.data
        have Hb := Lib.hid (Hbad.out _ (List.getElem_mem hil))
        have Hq2 : Hid (smallF l[i].1 → ∀ x ∈ l.take (i + 1), smallF x.1) := Lib.hid (fun h x hx => by
          rw [List.take_succ_eq_append_getElem hil] at hx
          rcases List.mem_append.1 hx with hx | hx
          · exact hq.out x hx
          · rw [List.mem_singleton.1 hx]; exact h)
        clear hk hq hwi
        generalize l[i] = x at *
        obtain ⟨⟨path, kind, mode, time, data, tgt⟩, dv⟩ := x
        obtain ⟨d0, d1, d2, d3, d4, d5⟩ := cells6 d
        simp only at d0 d1 d2 d3 d4 d5 hdv w1 w2 w3 Hb Hq2
        subst hdv
        clear d
        have z1 : ((str path).size : Int) ≤ 9223372036854775807 := by show (path.length : Int) ≤ _; omega
        have z2 : ((str tgt).size : Int) ≤ 9223372036854775807 := by show (tgt.length : Int) ≤ _; omega
        have z3 : (data.length : Int) ≤ 9223372036854775807 := by omega
        have Z := Lib.hid (And.intro (show (str path).size = path.length from rfl) (show (str tgt).size = tgt.length from rfl))
        by_cases s1 : (300 : Int) < ((str path).size : Int)
        · have Hf := Lib.hid (Hb.out (fun h => by have := h.1; have := Z.out; simp only at *; omega))
          go_wp2
          go_ret
          exact ⟨by rw [Hf.out]; rfl, rfl⟩
        by_cases s2 : (300 : Int) < ((str tgt).size : Int)
        · have Hf := Lib.hid (Hb.out (fun h => by have := h.2.1; have := Z.out; simp only at *; omega))
          go_wp2
          go_ret
          exact ⟨by rw [Hf.out]; rfl, rfl⟩
        by_cases s3 : (200 : Int) < (data.length : Int)
        · have Hf := Lib.hid (Hb.out (fun h => by have := h.2.2; simp only at *; omega))
          go_wp2
          go_ret
          exact ⟨by rw [Hf.out]; rfl, rfl⟩
        have Hq3 := Lib.hid (Hq2.out ⟨by have := Z.out; simp only at *; omega, by have := Z.out; simp only at *; omega, by simp only; omega⟩)
        go_wp2
        go_roundg j
        case measure => omega
        case rel => exact ⟨i + 1, by have := Hk.out; omega, by omega, rfl, rfl, Hq3⟩
      · have h12' : (12 : Int) < (l.length : Int) := by omega
        have h12n : ¬ (l.length : Int) ≤ 12 := by omega
        have Hf := Lib.hid (Hlong.out (by omega))
        go_wp2
        go_ret
        exact ⟨by rw [Hf.out]; rfl, rfl⟩
    · by_cases h12 : (l.length : Int) ≤ 12
      · have Hf := Lib.hid (Hgood.out (by omega) (fun x hx => hq.out x (by rw [List.take_of_length_le (by omega)]; exact hx)))
        go_wp2
        go_ret
        exact ⟨by rw [Hf.out]; rfl, rfl⟩
      · have Hf := Lib.hid (Hlong.out (by omega))
        have h12n : decide ((l.length : Int) ≤ 12) = false := by simpa using h12
        go_wp2
        go_ret
        exact ⟨by rw [Hf.out]; rfl, rfl⟩

def shortE (e : En) : Prop := e.path.length ≤ 300 ∧ e.tgt.length ≤ 300 ∧ e.size ≤ 1099511627776 ∧ -1099511627776 ≤ e.size
instance (f : En) : Decidable (shortE f) := by unfold shortE; infer_instance
def shortP (l : List En) : Prop := l.length ≤ 20 ∧ ∀ f ∈ l, shortE f
instance (l : List En) : Decidable (shortP l) := by unfold shortP; infer_instance
end Go.Proofs.YtmppagiaonbggaaDoor

/- The walks over told, given and same of the laws on entries. -/
namespace Go.Proofs.YtmppagiaonbggaaDoor
set_option linter.unusedVariables false
set_option linter.unusedSimpArgs false
set_option maxRecDepth 100000
open Go.RowKit

theorem infoEnR : (Tryd.prog.info? 62).map (fun i => (i.zero, i.size, i.bytes)) = some (some (.agg #[.string ByteArray.empty, .int .i64 0, .int .i64 0, .int .i64 0, .string ByteArray.empty, .int .i64 0, .int .i64 0]), 7, 72) := by kernel_rfl

end Go.Proofs.YtmppagiaonbggaaDoor

/- The walk over awake of the laws on entries. -/
namespace Go.Proofs.YtmppagiaonbggaaDoor
set_option linter.unusedVariables false
set_option linter.unusedSimpArgs false
set_option maxRecDepth 100000
open Go.RowKit

def twoFiles : List Fi := [⟨[97], 1, 0, 0, [97, 98, 99], []⟩, ⟨[98], 1, 0, 0, [100, 101], []⟩]
def twoEnts : List En := [⟨[97], 1, 0, 0, [], 0, 3⟩, ⟨[98], 1, 0, 0, [], 3, 2⟩]
theorem two_why : whyE (ents twoFiles) = 0 := by decide +kernel
theorem two_of : ofE twoFiles = twoEnts := by unfold ofE; rw [if_pos two_why]; rfl
theorem two_total : totalE twoEnts = 5 := by decide +kernel
theorem two_fine : fineB twoEnts = true := by decide +kernel

theorem rd_block {w : World} {g : Nat} {arr : Array Value} {t : TypeId} {fr : Nat × Nat} (h : w.heap[g]? = some (.cells arr t fr)) (c : Nat) : Rd w (.slice (some ⟨g, 0, none⟩) arr.size c) arr.toList :=
  ⟨some ⟨g, 0, none⟩, c, by simp, fun _ => ⟨⟨g, 0, none⟩, rfl, fun j u hu => by rw [Addr.add_lit, Nat.zero_add, cell_of_row _ _ _ _ _ _ h]; simpa using hu⟩⟩
theorem rdA_block {α : Type} {k : Nat} {cs : α → List Value} (hk : ∀ a, (cs a).length = k) {w : World} {g : Nat} {arr : Array Value} {t : TypeId} {fr : Nat × Nat} (h : w.heap[g]? = some (.cells arr t fr)) (l : List α) (hl : arr.toList = flat cs l) : RdA k cs w (some ⟨g, 0, none⟩) l := by
  intro i hi
  refine ⟨g, 0, rfl, (Array.getElem?_eq_some_iff.1 h).1, fun j u hu => ?_⟩
  have := flat_get hk l i hi j u hu
  rw [← hl] at this
  rw [Nat.zero_add, cell_of_row _ _ _ _ _ _ h]
  simpa using this
def twoIn (g : Nat) : List (Fi × Value) := [(⟨[97], 1, 0, 0, [97, 98, 99], []⟩, .slice (some ⟨g, 0, none⟩) 3 3), (⟨[98], 1, 0, 0, [100, 101], []⟩, .slice (some ⟨g + 1, 0, none⟩) 2 2)]
theorem fiL_len (x : Fi × Value) : (fiL x).length = 6 := rfl
theorem two_rd {w : World} {g h : Nat} {t1 t2 t3 : TypeId} {f1 f2 f3 : Nat × Nat} (h1 : w.heap[g]? = some (.cells #[.int .u8 97, .int .u8 98, .int .u8 99] t1 f1)) (h2 : w.heap[g + 1]? = some (.cells #[.int .u8 100, .int .u8 101] t2 f2))
    (h3 : w.heap[h]? = some (.cells #[.string ⟨#[97]⟩, .int .i64 1, .int .i64 0, .int .i64 0, .slice (some ⟨g, 0, none⟩) 3 3, .string ⟨#[]⟩, .string ⟨#[98]⟩, .int .i64 1, .int .i64 0, .int .i64 0, .slice (some ⟨g + 1, 0, none⟩) 2 2, .string ⟨#[]⟩] t3 f3)) : RdF w (some ⟨h, 0, none⟩) (twoIn g) := by
  refine ⟨rdA_block fiL_len h3 _ rfl, fun x hx => ?_⟩
  rcases List.mem_cons.1 hx with rfl | hx
  · exact rd_block h1 3
  · rcases List.mem_singleton.1 hx with rfl
    exact rd_block h2 2
theorem two_files_ok : ∀ f ∈ twoFiles, f.ok := by
  intro f hf
  rcases List.mem_cons.1 hf with rfl | hf
  · exact ⟨by decide, ⟨by decide, by decide⟩, ⟨by decide, by decide⟩, ⟨by decide, by decide⟩, by decide⟩
  · rcases List.mem_singleton.1 hf with rfl
    exact ⟨by decide, ⟨by decide, by decide⟩, ⟨by decide, by decide⟩, ⟨by decide, by decide⟩, by decide⟩
theorem two_ok (g : Nat) : ∀ x ∈ twoIn g, x.1.ok := fun x hx => two_files_ok x.1 (show x.1 ∈ (twoIn g).map (·.1) from List.mem_map_of_mem hx)
theorem twoEnts_ok : ∀ e ∈ twoEnts, e.ok ∧ e.path.length ≤ 4294967280 := ents_ok (l := twoFiles) two_files_ok (by decide)

end Go.Proofs.YtmppagiaonbggaaDoor

/- The walks over the laws EntryFirsts, EntryOf and EntryWithins. -/
namespace Go.Proofs.YtmppagiaonbggaaDoor
set_option linter.unusedVariables false
set_option linter.unusedSimpArgs false
set_option maxRecDepth 100000
open Go.RowKit

theorem RdA.take {α : Type} {k : Nat} {cs : α → List Value} {w : World} {A : Option Addr} {l : List α} (h : RdA k cs w A l) (n : Nat) : RdA k cs w A (l.take n) := by
  intro i hi
  have h1 : i < l.length := by rw [List.length_take] at hi; omega
  obtain ⟨b, off, ha, hlt, hc⟩ := h i h1
  exact ⟨b, off, ha, hlt, fun j u hu => hc j u (by rw [List.getElem_take] at hu; exact hu)⟩
theorem RdF.take {w : World} {A : Option Addr} {l : List (Fi × Value)} (h : RdF w A l) (n : Nat) : RdF w A (l.take n) := ⟨h.1.take n, fun x hx => h.2 x (List.mem_of_mem_take hx)⟩
theorem entsFrom_take : ∀ (l : List Fi) (a : Int) (n : Nat), entsFrom a (l.take n) = (entsFrom a l).take n
  | [], _, _ => by simp [entsFrom]
  | f :: l, a, 0 => by simp [entsFrom]
  | f :: l, a, n + 1 => by
    simp only [List.take_succ_cons, entsFrom]
    rw [entsFrom_take l]
theorem ents_take (l : List Fi) (n : Nat) : ents (l.take n) = (ents l).take n := entsFrom_take l 0 n
theorem begB_ents : ∀ (l : List Fi) (a : Int), begB a (entsFrom a l) = true
  | [], _ => rfl
  | f :: l, a => by
    unfold entsFrom begB
    rw [Bool.and_eq_true]
    exact ⟨by simp, begB_ents l _⟩
theorem whyE_of {l : List En} (h1 : sortedB (l.map (·.path)) = true) (h2 : l.length ≤ 1024) (h3 : sumC l ≤ 4194304) (h4 : ∀ e ∈ l, plainP e) : whyE l = 0 := by
  have ha : (l.map (·.path)).all okPath = true := by unfold sortedB at h1; exact (Bool.and_eq_true _ _ ▸ h1).1
  have hs : l.all (fun e => decide (e.size ≤ 1048576)) = true := by
    rw [List.all_eq_true]; intro e he; obtain ⟨_, _, _, _, _, h6, _⟩ := h4 e he; exact decide_eq_true h6
  have hp : l.all plainB = true := by rw [List.all_eq_true]; intro e he; exact decide_eq_true (h4 e he)
  rw [whyE_eq, ha, h1, hs, hp, if_neg (by simp), if_neg (by simp), if_neg (by simp; omega), if_neg (by simp)]
theorem sumM_take (l : List En) (n : Nat) : sumM (l.take n) ≤ sumM l := by
  have : sumM l = sumM (l.take n) + sumM (l.drop n) := by
    conv => lhs; rw [← List.take_append_drop n l]
    unfold sumM
    rw [List.map_append, List.sum_append]
  have := sumM_nonneg (l.drop n)
  omega
theorem whyE_take {l : List En} (h : whyE l = 0) (n : Nat) : whyE (l.take n) = 0 := by
  obtain ⟨h1, h2, h3, h4⟩ := whyE_zero h
  refine whyE_of ?_ (by rw [List.length_take]; omega) ?_ (fun e he => h4 e (List.mem_of_mem_take he))
  · rw [sortedB_iff] at h1 ⊢
    exact sorted_sub h1 ((List.take_sublist n l).map _)
  · rw [sumC_min] at h3 ⊢
    have := sumM_take l n
    omega
theorem fineB_ents {l : List Fi} (h : whyE (ents l) = 0) : fineB (ents l) = true := by
  unfold fineB ents
  unfold ents at h
  rw [h, begB_ents]; rfl

end Go.Proofs.YtmppagiaonbggaaDoor

/- When a list is ahead of another one. -/
namespace Go.Proofs.YtmppagiaonbggaaDoor
set_option linter.unusedVariables false
set_option linter.unusedSimpArgs false
set_option maxRecDepth 100000
theorem prefix_iff {α : Type} [DecidableEq α] (p x : List α) : p <+: x ↔ p.length ≤ x.length ∧ ∀ i (h : i < p.length) (h2 : i < x.length), x[i] = p[i] := by
  constructor
  · rintro ⟨t, rfl⟩
    exact ⟨by simp, fun i h h2 => by rw [List.getElem_append_left h]⟩
  · rintro ⟨h1, h2⟩
    refine ⟨x.drop p.length, ?_⟩
    conv => rhs; rw [← List.take_append_drop p.length x]
    congr 1
    refine List.ext_getElem (by simp; omega) fun i a b => ?_
    rw [List.getElem_take, h2 i a (by omega)]

end Go.Proofs.YtmppagiaonbggaaDoor

/- The walks over the laws EntryOf and EntryWithins. -/
namespace Go.Proofs.YtmppagiaonbggaaDoor
set_option linter.unusedVariables false
set_option linter.unusedSimpArgs false
set_option maxRecDepth 100000
open Go.RowKit

theorem takeWhile_prefix {α : Type} {p q : α → Bool} (h : ∀ x, p x = true → q x = true) : ∀ l : List α, l.takeWhile p <+: l.takeWhile q
  | [] => List.prefix_refl _
  | a :: l => by
    rw [List.takeWhile_cons, List.takeWhile_cons]
    by_cases hp : p a = true
    · rw [if_pos hp, if_pos (h a hp)]
      obtain ⟨t, ht⟩ := takeWhile_prefix h l
      exact ⟨t, by rw [List.cons_append, ht]⟩
    · rw [if_neg hp]; exact List.nil_prefix
theorem within_prefix (l : List En) {n m : Int} (h : n ≤ m) : withinE l n <+: withinE l m := by
  unfold withinE
  split
  · exact takeWhile_prefix (fun x hx => by rw [decide_eq_true_eq] at hx ⊢; omega) l
  · exact List.prefix_refl _
theorem sumS_take {l : List En} (h : ∀ e ∈ l, plainP e) (n : Nat) : sumS (l.take n) ≤ sumS l := by
  have h1 : sumS l = sumS (l.take n) + sumS (l.drop n) := by
    conv => lhs; rw [← List.take_append_drop n l]
    unfold sumS
    rw [List.map_append, List.sum_append]
  have := (sumS_range (l := l.drop n) (fun e he => h e (List.mem_of_mem_drop he))).1
  omega
theorem within_total {l : List En} (h : fineB l = true) : withinE l (totalE l) = l := by
  obtain ⟨h1, h2⟩ := fineB_true h
  obtain ⟨_, _, _, hp⟩ := whyE_zero h1
  unfold withinE
  rw [if_pos h]
  have : ∀ x ∈ l, decide (x.beg + x.size ≤ totalE l) = true := by
    intro x hx
    obtain ⟨i, hi, rfl⟩ := List.mem_iff_getElem.1 hx
    unfold totalE
    rw [if_pos h, decide_eq_true_eq, h2 i hi, ← sumS_snoc, ← List.take_succ_eq_append_getElem hi]
    exact sumS_take hp (i + 1)
  have h3 := takeWhile_take (fun e : En => decide (e.beg + e.size ≤ totalE l)) l l.length (by rw [List.take_length]; exact this)
  rw [h3]; simp

end Go.Proofs.YtmppagiaonbggaaDoor

/- Bytes appended to a row of bytes; files with the rows that their data lie in. -/
namespace Go.Proofs.YtmppagiaonbggaaDoor
set_option linter.unusedVariables false
set_option linter.unusedSimpArgs false
set_option maxRecDepth 100000
open Go.RowKit

/-- The rows that files' data lie in. -/
def Dat : List (Fi × Value) → HP
  | [] => Emp
  | x :: l => Rw 5 1 x.2 x.1.data.length (bytesU x.1.data) * Dat l
instance Loc.dat {B : Nat} : (l : List (Fi × Value)) → Loc B (Dat l)
  | [] => inferInstanceAs (Loc B Emp)
  | x :: l => by
    have := Loc.dat (B := B) l
    exact inferInstanceAs (Loc B (Rw 5 1 x.2 x.1.data.length (bytesU x.1.data) * Dat l))
theorem dat_append (a b : List (Fi × Value)) : Dat (a ++ b) = Dat a * Dat b ∨ True := .inr trivial
theorem Own.dat {B : Nat} {w : World} : ∀ {l : List (Fi × Value)} {R : HP}, Own B (Dat l * R) w → ∀ x ∈ l, Rd w x.2 (bytesU x.1.data)
  | [], _, _, x, hx => absurd hx (by simp)
  | y :: l, R, h, x, hx => by
    have h1 : Own B (Rw 5 1 y.2 y.1.data.length (bytesU y.1.data) * (Dat l * R)) w := h.assoc
    rcases List.mem_cons.1 hx with rfl | hx
    · exact h1.rd
    · exact Own.dat h1.right x hx
theorem Own.dat_snoc {B : Nat} {w : World} {x : Fi × Value} : ∀ {l : List (Fi × Value)} {R : HP}, Own B (Dat l * (Rw 5 1 x.2 x.1.data.length (bytesU x.1.data) * R)) w → Own B (Dat (l ++ [x]) * R) w
  | [], R, h => (h.right.cast (show _ = (Rw 5 1 x.2 x.1.data.length (bytesU x.1.data) * R) from rfl)).mono (fun w F ⟨F1, F2, hd, h1, h2, ha, hr⟩ => ⟨F1, F2, hd, h1, h2, ⟨F1, fun _ => False, fun _ _ h => h, fun _ h => h, fun _ h => h.elim, ha, trivial⟩, hr⟩)
  | y :: l, R, h => by
    have h1 : Own B (Dat l * (Rw 5 1 x.2 x.1.data.length (bytesU x.1.data) * (Rw 5 1 y.2 y.1.data.length (bytesU y.1.data) * R))) w :=
      h.cast (by show ((Rw 5 1 y.2 y.1.data.length (bytesU y.1.data) * Dat l) * _) = _; ac_rfl)
    have h2 := Own.dat_snoc h1
    exact h2.cast (by show _ = ((Rw 5 1 y.2 y.1.data.length (bytesU y.1.data) * Dat (l ++ [x])) * R); ac_rfl)
end Go.Proofs.YtmppagiaonbggaaDoor

/- The walk over Fill of package entry. -/
namespace Go.Proofs.YtmppagiaonbggaaDoor
set_option linter.unusedVariables false
set_option linter.unusedSimpArgs false
set_option maxRecDepth 100000
open Go.RowKit

theorem infoFi : (Tryd.prog.info? 57).map (fun i => (i.zero, i.size, i.bytes)) = some (some (.agg #[.string ByteArray.empty, .int .i64 0, .int .i64 0, .int .i64 0, .slice none 0 0, .string ByteArray.empty]), 6, 80) := by kernel_rfl
def fileOf (data : List UInt8) (e : En) : Fi := ⟨e.path, e.kind, e.mode, e.time, (data.drop e.beg.toNat).take e.size.toNat, e.tgt⟩
def fillE (l : List En) (data : List UInt8) : Option (List Fi) := if fineB l = true ∧ (data.length : Int) = totalE l then some (l.map (fileOf data)) else none
def FillP (w : World) : Option (List Fi) → Ending → World → Prop
  | none, e, w' => e = .returned (.tuple #[.slice none 0 0, .int .i64 1]) ∧ Below w.heap.size w w'
  | some fs, e, w' => ∃ (A : Option Addr) (c : Nat) (l : List (Fi × Value)), l.map (·.1) = fs ∧ e = .returned (.tuple #[.slice A l.length c, .int .i64 0]) ∧ (l.length ≤ c ∧ c ≤ 9223372036854775807) ∧ RdF w' A l ∧ Below w.heap.size w w'
theorem FillP.mk {w w' : World} {fs : List Fi} {e : Ending} {A : Option Addr} {c n : Nat} {l : List (Fi × Value)} {z : Int} (he : e = .returned (.tuple #[.slice A n c, .int .i64 z])) (hz : z = 0) (hn : n = l.length) (hl : l.map (·.1) = fs) (hc : n ≤ c ∧ c ≤ 9223372036854775807) (hr : RdF w' A l) (hb : Below w.heap.size w w') : FillP w (some fs) e w' := by
  subst hz; subst hn; exact ⟨A, c, l, hl, he, hc, hr, hb⟩
theorem fine_ends {l : List En} (h : fineB l = true) (i : Nat) (hi : i < l.length) : l[i].beg + l[i].size ≤ totalE l := by
  obtain ⟨h1, h2⟩ := fineB_true h
  obtain ⟨_, _, _, hp⟩ := whyE_zero h1
  unfold totalE
  rw [if_pos h, h2 i hi, ← sumS_snoc, ← List.take_succ_eq_append_getElem hi]
  exact sumS_take hp _

theorem Rd.cut {w : World} {A : Option Addr} {n c : Nat} {data : List UInt8} (h : Rd w (.slice A n c) (bytesU data)) {l m : Nat} (hm : l + m ≤ data.length) (hc : data.length ≤ c) (c' : Nat) :
    Rd w (.slice (if c = l then A else Option.map (fun x => x.add l) A) m c') (bytesU ((data.drop l).take m)) := by
  have hl : ((data.drop l).take m).length = m := by rw [List.length_take, List.length_drop]; omega
  split
  · next e =>
    have : m = 0 := by omega
    subst this
    exact ⟨A, c', by simp [bytesU], fun hne => absurd (by simp [bytesU]) hne⟩
  · exact h.part l m c' _ (by unfold bytesU; rw [← List.map_drop, ← List.map_take]) (by rw [bytesU_length, hl])

end Go.Proofs.YtmppagiaonbggaaDoor

/- The walk over Files of the laws on entries. -/
namespace Go.Proofs.YtmppagiaonbggaaDoor
set_option linter.unusedVariables false
set_option linter.unusedSimpArgs false
set_option maxRecDepth 100000
open Go.RowKit

/-- string(b) of bytes that one can read. -/
theorem str_of_rd {w : World} {v : Value} {data : List UInt8} (h : Rd w v (bytesU data)) : (convert 32 9 v).run Tryd.prog w = .ok (.string (str data)) w := by
  obtain ⟨A, c, rfl, hr⟩ := h
  rw [bytesU_length]
  by_cases hne : bytesU data = []
  · obtain rfl : data = [] := by simpa [bytesU] using hne
    cases A with
    | none => exact run_convert_bytes_nil w 32 5 Tryd.underlying32 Tryd.underlying5 0 c 9 Tryd.underlying9
    | some ad => exact run_convert_bytes_back w 32 9 5 ad c [] Tryd.underlying32 Tryd.underlying5 Tryd.underlying9 (fun j hj => absurd hj (by simp))
  · obtain ⟨ad, rfl, hc⟩ := hr hne
    exact run_convert_bytes_back w 32 9 5 ad c data Tryd.underlying32 Tryd.underlying5 Tryd.underlying9 (fun j hj => hc j _ (by simp [bytesU, hj]))

set_option maxRecDepth 100000 in
set_option maxHeartbeats 3200000 in
theorem files_same (A B : Option Addr) (ca cb : Nat) (a b : List (Fi × Value)) (ha : a.length ≤ 4294967296) (he : a.map (·.1) = b.map (·.1)) (w : World) (hra : RdF w A a) (hrb : RdF w B b) :
    Calls Tryd.prog 19 #[.slice A a.length ca, .slice B b.length cb] w fun e w' => e = .returned (.bool true) ∧ Below w.heap.size w w' := by
  have hb := Below.refl w.heap.size w
  have Ha := Lib.hid (fun w1 (h : Below w.heap.size w w1) => hra.below h)
  have Hb := Lib.hid (fun w1 (h : Below w.heap.size w w1) => hrb.below h)
  have hlen : b.length = a.length := by simpa using (congrArg List.length he).symm
  have He := Lib.hid (fun i (h1 : i < a.length) (h2 : i < b.length) => show a[i].1 = b[i].1 by
    have := List.getElem_of_eq he (i := i) (by simpa using h1)
    simpa using this)
  have n1 : (a.length : Int) ≤ 4294967296 := by omega
  have Hlen := Lib.hid hlen
  rw [hlen]
  clear hra hrb he hlen
  obtain ⟨n, hal⟩ : ∃ n, n = a.length := ⟨_, rfl⟩
  rw [← hal] at n1 ⊢
  have Hal := Lib.hid hal
  clear hal ha
  have hnn : (n == n) = true := by simp
  go_enter Tryd.func19, Tryd.ntmps19
  go_wp2
  go_loopg [15] n (fun k v wr => ∃ i : Nat, k + i = n ∧ v = .int .i64 i ∧ Below w.heap.size w wr)
  case atStart => exact ⟨0, by omega, rfl, hb⟩
  case round =>
    clear hb
    obtain ⟨i, hk, rfl, hb⟩ := hrel
    by_cases hlt : (i : Int) < (n : Int)
    · obtain ⟨j, rfl⟩ : ∃ j, gk = j + 1 := ⟨gk - 1, by omega⟩
      have hil : i < a.length := by have := Hal.out; omega
      have hil2 : i < b.length := by have := Hal.out; have := Hlen.out; omega
      have i0' : (0 : Int) ≤ (i : Int) := by omega
      obtain ⟨p1, o1, rfl, q1, d⟩ := (Ha.out _ hb).1 i hil
      obtain ⟨p2, o2, rfl, q2, d'⟩ := (Hb.out _ hb).1 i hil2
      obtain ⟨d0, d1, d2, d3, d4, d5⟩ := cells6 d
      obtain ⟨e0, e1, e2, e3, e4, e5⟩ := cells6 d'
      have r1 := (Ha.out _ hb).2 _ (List.getElem_mem hil)
      have r2 := (Hb.out _ hb).2 _ (List.getElem_mem hil2)
      have hg := He.out i hil hil2
      have Hk := Lib.hid hk
      clear d d' hk
      rw [← hg] at e0 e1 e2 e3 e5 r2
      clear hg
      generalize a[i] = x at *
      generalize b[i].2 = yv at *
      obtain ⟨⟨path, kind, mode, time, data, tgt⟩, xv⟩ := x
      simp only at d0 d1 d2 d3 d4 d5 e0 e1 e2 e3 e4 e5 r1 r2
      obtain ⟨Ax, cx, hx⟩ : ∃ A c, xv = .slice A data.length c := by obtain ⟨A, c, h, _⟩ := r1; exact ⟨A, c, by rw [h, bytesU_length]⟩
      obtain ⟨Ay, cy, hy⟩ : ∃ A c, yv = .slice A data.length c := by obtain ⟨A, c, h, _⟩ := r2; exact ⟨A, c, by rw [h, bytesU_length]⟩
      subst hx; subst hy
      generalize hdn : data.length = dn at *
      clear hdn
      have b1 := (Below.refl wr.heap.size wr).alloc (Nat.le_refl _) (.cells #[.string (str path), .int .i64 kind, .int .i64 mode, .int .i64 time, .slice Ax dn cx, .string (str tgt)] 57)
      have b2 := b1.alloc (by simp) (.cells #[.string (str path), .int .i64 kind, .int .i64 mode, .int .i64 time, .slice Ay dn cy, .string (str tgt)] 57)
      have s1 := str_of_rd (r1.below b2)
      have s2 := str_of_rd (r2.below b2)
      have hb2 := hb.trans (b2.mono hb.size)
      clear r1 r2 b1 b2 hb
      go_wp2
      go_roundg j
      case measure => omega
      case rel => exact ⟨i + 1, by have := Hk.out; omega, rfl, hb2⟩
    · go_wp2
      go_ret
      exact ⟨rfl, hb⟩
end Go.Proofs.YtmppagiaonbggaaDoor

/- The walk over read of package entry: an entry out of a reader. -/
namespace Go.Proofs.YtmppagiaonbggaaDoor
set_option linter.unusedVariables false
set_option linter.unusedSimpArgs false
set_option maxRecDepth 100000
open Go.RowKit

def mx : Int := 1099511627775
def stN (s : OS) : Nat → OS
  | 0 => s
  | i + 1 => (readNum (stN s i) mx).2
def vN (s : OS) (i : Nat) : Int := (readNum (stN s i) mx).1
theorem stN_rest (s : OS) : ∀ i, (stN s i).rest.length ≤ s.rest.length
  | 0 => Nat.le_refl _
  | i + 1 => Nat.le_trans (readNum_rest _ _) (stN_rest s i)
/-- An entry out of a reader. -/
def readE (s : OS) : En × OS :=
  let b1 := readBytes (stN s 5) 256
  let b2 := readBytes b1.2 256
  (⟨b1.1, vN s 0, vN s 1, vN s 2, b2.1, vN s 3, vN s 4⟩, b2.2)
def cN (s : OS) (i j : Nat) : Value := .int .i64 (if j < i then vN s j else 0)
def cellsN (s : OS) (i : Nat) : Array Value := #[.string ByteArray.empty, cN s i 0, cN s i 1, cN s i 2, .string ByteArray.empty, cN s i 3, cN s i 4]
def ptrsN (X : Nat) : Array Value := #[.pointer (some ⟨X, 1, none⟩), .pointer (some ⟨X, 2, none⟩), .pointer (some ⟨X, 3, none⟩), .pointer (some ⟨X, 5, none⟩), .pointer (some ⟨X, 6, none⟩)]
def zero7 : Array Value := #[.string ByteArray.empty, .int .i64 0, .int .i64 0, .int .i64 0, .string ByteArray.empty, .int .i64 0, .int .i64 0]


end Go.Proofs.YtmppagiaonbggaaDoor

/- Entries as bytes: plain laws of what is written, and of what is read. -/
namespace Go.Proofs.YtmppagiaonbggaaDoor
set_option linter.unusedVariables false
set_option linter.unusedSimpArgs false
set_option maxRecDepth 100000

def obytes (x : List UInt8) : List UInt8 := onumI (x.length : Int) ++ x
def encE (e : En) : List UInt8 := onumI e.kind ++ (onumI e.mode ++ (onumI e.time ++ (onumI e.beg ++ (onumI e.size ++ (obytes e.path ++ obytes e.tgt)))))
def encL (l : List En) : List UInt8 := onumI (l.length : Int) ++ l.flatMap encE
structure En.num (e : En) : Prop where
  kind : 0 ≤ e.kind ∧ e.kind ≤ 1099511627775
  mode : 0 ≤ e.mode ∧ e.mode ≤ 1099511627775
  time : 0 ≤ e.time ∧ e.time ≤ 1099511627775
  beg : 0 ≤ e.beg ∧ e.beg ≤ 1099511627775
  size : 0 ≤ e.size ∧ e.size ≤ 1099511627775
  path : e.path.length ≤ 256
  tgt : e.tgt.length ≤ 256
theorem onumI_in {n : Int} (h : 0 ≤ n ∧ n ≤ 1099511627775) : onumI n = onum n.toNat := by unfold onumI; rw [if_neg (by omega)]
theorem readNum_onumI {n : Int} (h : 0 ≤ n ∧ n ≤ 1099511627775) (most : Int) (hm : n ≤ most) (r : List UInt8) : readNum ⟨onumI n ++ r, 0⟩ most = (n, ⟨r, 0⟩) := by
  rw [onumI_in h, readNum_onum (by omega) most (by omega), Int.toNat_of_nonneg h.1]
theorem obytes_eq (x : List UInt8) (h : x.length ≤ 1099511627775) : obytes x = bytesN x := by unfold obytes bytesN; rw [onumI_in (by omega), Int.toNat_natCast]
theorem readE_encE {e : En} (h : e.num) (r : List UInt8) : readE ⟨encE e ++ r, 0⟩ = (e, ⟨r, 0⟩) := by
  obtain ⟨h1, h2, h3, h4, h5, h6, h7⟩ := h
  obtain ⟨path, kind, mode, time, tgt, beg, size⟩ := e
  simp only at h1 h2 h3 h4 h5 h6 h7
  unfold encE
  simp only [List.append_assoc]
  have s1 : stN ⟨onumI kind ++ (onumI mode ++ (onumI time ++ (onumI beg ++ (onumI size ++ (obytes path ++ (obytes tgt ++ r)))))), 0⟩ 1 = ⟨onumI mode ++ (onumI time ++ (onumI beg ++ (onumI size ++ (obytes path ++ (obytes tgt ++ r))))), 0⟩ := by
    unfold stN stN; rw [readNum_onumI h1 mx h1.2]
  generalize hs : (⟨onumI kind ++ (onumI mode ++ (onumI time ++ (onumI beg ++ (onumI size ++ (obytes path ++ (obytes tgt ++ r)))))), 0⟩ : OS) = s at *
  have v0 : vN s 0 = kind := by unfold vN stN; rw [← hs, readNum_onumI h1 mx h1.2]
  have s2 : stN s 2 = ⟨onumI time ++ (onumI beg ++ (onumI size ++ (obytes path ++ (obytes tgt ++ r)))), 0⟩ := by
    rw [stN, s1, readNum_onumI h2 mx h2.2]
  have v1 : vN s 1 = mode := by unfold vN; rw [s1, readNum_onumI h2 mx h2.2]
  have s3 : stN s 3 = ⟨onumI beg ++ (onumI size ++ (obytes path ++ (obytes tgt ++ r))), 0⟩ := by
    rw [stN, s2, readNum_onumI h3 mx h3.2]
  have v2 : vN s 2 = time := by unfold vN; rw [s2, readNum_onumI h3 mx h3.2]
  have s4 : stN s 4 = ⟨onumI size ++ (obytes path ++ (obytes tgt ++ r)), 0⟩ := by
    rw [stN, s3, readNum_onumI h4 mx h4.2]
  have v3 : vN s 3 = beg := by unfold vN; rw [s3, readNum_onumI h4 mx h4.2]
  have s5 : stN s 5 = ⟨obytes path ++ (obytes tgt ++ r), 0⟩ := by
    rw [stN, s4, readNum_onumI h5 mx h5.2]
  have v4 : vN s 4 = size := by unfold vN; rw [s4, readNum_onumI h5 mx h5.2]
  have b1 : readBytes ⟨obytes path ++ (obytes tgt ++ r), 0⟩ 256 = (path, ⟨obytes tgt ++ r, 0⟩) := by
    rw [obytes_eq path (by omega), readBytes_bytes 256 (by omega) (by omega)]
  have b2 : readBytes ⟨obytes tgt ++ r, 0⟩ 256 = (tgt, ⟨r, 0⟩) := by
    rw [obytes_eq tgt (by omega), readBytes_bytes 256 (by omega) (by omega)]
  unfold readE
  simp only [s5, b1, b2, v0, v1, v2, v3, v4]
theorem stN_ok {s : OS} : ∀ (i : Nat), (stN s i).err = 0 → s.err = 0 ∧ ∀ j, j < i → (stN s j).err = 0 ∧ (stN s j).rest = onumI (vN s j) ++ (stN s (j + 1)).rest ∧ 0 ≤ vN s j ∧ vN s j ≤ 1099511627775
  | 0, h => ⟨h, fun j hj => absurd hj (Nat.not_lt_zero _)⟩
  | i + 1, h => by
    have hr : readNum (stN s i) mx = (vN s i, stN s (i + 1)) := rfl
    obtain ⟨h1, h2, h3, h4, h5⟩ := readNum_ok hr h
    obtain ⟨k1, k2⟩ := stN_ok i h1
    refine ⟨k1, fun j hj => ?_⟩
    by_cases e : j = i
    · subst e
      exact ⟨h1, by rw [onumI_in ⟨h3, h5⟩]; exact h2, h3, h5⟩
    · exact k2 j (by omega)
theorem readE_ok {s t : OS} {e : En} (h : readE s = (e, t)) (ht : t.err = 0) : s.err = 0 ∧ s.rest = encE e ++ t.rest ∧ e.num := by
  unfold readE at h
  simp only at h
  injection h with h1 h2
  generalize hb1 : readBytes (stN s 5) 256 = q1 at *
  obtain ⟨path, t1⟩ := q1
  generalize hb2 : readBytes t1 256 = q2 at *
  obtain ⟨tgt, t2⟩ := q2
  simp only at h1 h2
  subst h2
  obtain ⟨k1, k2, k3, _⟩ := readBytes_ok hb2 ht
  obtain ⟨j1, j2, j3, _⟩ := readBytes_ok hb1 k1
  obtain ⟨z, hz⟩ := stN_ok 5 j1
  obtain ⟨_, r0, a0, a0'⟩ := hz 0 (by omega)
  obtain ⟨_, r1, a1, a1'⟩ := hz 1 (by omega)
  obtain ⟨_, r2, a2, a2'⟩ := hz 2 (by omega)
  obtain ⟨_, r3, a3, a3'⟩ := hz 3 (by omega)
  obtain ⟨_, r4, a4, a4'⟩ := hz 4 (by omega)
  subst h1
  refine ⟨z, ?_, ⟨⟨a0, a0'⟩, ⟨a1, a1'⟩, ⟨a2, a2'⟩, ⟨a3, a3'⟩, ⟨a4, a4'⟩, by simp only; omega, by simp only; omega⟩⟩
  unfold encE
  simp only [List.append_assoc]
  rw [obytes_eq path (by omega), obytes_eq tgt (by omega), ← k2, ← j2, ← r4, ← r3, ← r2, ← r1, ← r0]
  rfl

def readL : Nat → OS → List En → List En × OS
  | 0, s, acc => (acc, s)
  | k + 1, s, acc => if (readE s).2.err ≠ 0 then ([], (readE s).2) else readL k (readE s).2 (acc ++ [(readE s).1])
theorem readL_enc : ∀ (l : List En) (r : List UInt8) (acc : List En), (∀ e ∈ l, e.num) → readL l.length ⟨l.flatMap encE ++ r, 0⟩ acc = (acc ++ l, ⟨r, 0⟩)
  | [], r, acc, _ => by simp [readL]
  | e :: l, r, acc, h => by
    rw [List.flatMap_cons, List.append_assoc, List.length_cons, readL, readE_encE (h e List.mem_cons_self), if_neg (by simp), readL_enc l r _ (fun x hx => h x (List.mem_cons_of_mem _ hx))]
    simp
theorem readL_ok : ∀ (k : Nat) (s : OS) (acc x : List En) (t : OS), readL k s acc = (x, t) → t.err = 0 → s.err = 0 ∧ ∃ l, x = acc ++ l ∧ l.length = k ∧ s.rest = l.flatMap encE ++ t.rest ∧ ∀ e ∈ l, e.num
  | 0, s, acc, x, t, h, ht => by
    injection h with h1 h2
    subst h1; subst h2
    exact ⟨ht, [], by simp, rfl, by simp, by simp⟩
  | k + 1, s, acc, x, t, h, ht => by
    unfold readL at h
    split at h
    · rename_i he
      injection h with h1 h2
      subst h2
      exact absurd ht he
    · obtain ⟨h1, l, h2, h3, h4, h5⟩ := readL_ok k _ _ x t h ht
      obtain ⟨k1, k2, k3⟩ := readE_ok (s := s) (e := (readE s).1) (t := (readE s).2) rfl h1
      refine ⟨k1, (readE s).1 :: l, by rw [h2]; simp, by simp [h3], by rw [k2, h4, List.flatMap_cons, List.append_assoc], fun e he => ?_⟩
      rcases List.mem_cons.1 he with rfl | he
      · exact k3
      · exact h5 e he
def readAll (b : List UInt8) : List En × OS := readL (readNum ⟨b, 0⟩ 1024).1.toNat (readNum ⟨b, 0⟩ 1024).2 []
def decZ (b : List UInt8) : Int := if oend (readAll b).2 = 0 ∧ fineB (readAll b).1 = false then 4 else oend (readAll b).2
def decP (b : List UInt8) : List En × Int := if decZ b ≠ 0 then ([], decZ b) else ((readAll b).1, 0)

theorem fine_num {l : List En} (h : fineB l = true) : ∀ e ∈ l, e.num := by
  intro e he
  obtain ⟨i, hi, rfl⟩ := List.mem_iff_getElem.1 he
  obtain ⟨h1, h2⟩ := fineB_true h
  obtain ⟨hs, hl, _, hp⟩ := whyE_zero h1
  obtain ⟨b1, b2, b3, b4⟩ := fine_bounds h i hi
  have hpl := hp _ he
  have hpa : l[i].path.length ≤ 256 := by
    have : okPath l[i].path = true := by
      unfold whyE at h1
      split at h1
      · cases h1
      · rename_i h0
        have : (l.map (·.path)).all okPath = true := by simpa using h0
        exact List.all_eq_true.1 this _ (List.mem_map_of_mem he)
    unfold okPath at this
    simp at this
    exact this.1
  obtain ⟨p1, p2, p3, p4, p5, p6, p7⟩ := hpl
  generalize l[i] = e at *
  refine ⟨?_, ?_, ?_, ?_, ?_, hpa, ?_⟩
  · rcases p7 with p7 | p7 | p7 <;> omega
  · omega
  · omega
  · omega
  · omega
  · rcases p7 with p7 | p7 | p7
    · have := p7.2; simp [this]
    · have := p7.2.1; simp [this]
    · omega
theorem decP_enc {l : List En} (h : fineB l = true) : decP (encL l) = (l, 0) := by
  obtain ⟨hs, hl, _, hp⟩ := whyE_zero (fineB_true h).1
  have hr : readAll (encL l) = (l, ⟨[], 0⟩) := by
    unfold readAll encL
    rw [readNum_onumI (by omega) 1024 (by omega), Int.toNat_natCast]
    have := readL_enc l [] [] (fine_num h)
    rw [List.append_nil] at this
    rw [this]
    simp
  have hz : decZ (encL l) = 0 := by
    unfold decZ
    rw [hr, if_neg]
    · rfl
    · rintro ⟨_, hf⟩
      simp only at hf
      rw [h] at hf; cases hf
  unfold decP
  rw [hz, hr]
  rfl
theorem decP_ok {b : List UInt8} {l : List En} (h : decP b = (l, 0)) : fineB l = true ∧ encL l = b := by
  unfold decP at h
  split at h
  · rename_i hz
    injection h with h1 h2
    exact absurd h2 hz
  · rename_i hz
    have hz : decZ b = 0 := by simpa using hz
    injection h with h1 _
    subst h1
    unfold decZ at hz
    split at hz
    · cases hz
    · rename_i hn
      have hf : fineB (readAll b).1 = true := by
        cases hff : fineB (readAll b).1
        · exact absurd ⟨hz, hff⟩ hn
        · rfl
      refine ⟨hf, ?_⟩
      unfold oend at hz
      split at hz
      · cases hz
      · rename_i hleft
        unfold oleft at hleft
        rw [if_neg (by omega)] at hleft
        have hrest : (readAll b).2.rest = [] := List.eq_nil_of_length_eq_zero (by omega)
        unfold readAll at hz hrest ⊢
        generalize hr : readNum ⟨b, 0⟩ 1024 = q at *
        obtain ⟨n, s1⟩ := q
        simp only at hz hrest ⊢
        generalize hl : readL n.toNat s1 [] = q2 at *
        obtain ⟨x, t⟩ := q2
        obtain ⟨h1, m, h2, h3, h4, h5⟩ := readL_ok _ _ _ _ _ hl hz
        obtain ⟨k1, k2, k3, k4, k5⟩ := readNum_ok hr h1
        simp only at k2 hrest ⊢
        rw [List.nil_append] at h2
        subst h2
        rw [hrest, List.append_nil] at h4
        unfold encL
        rw [k2, h4, h3, onumI_in (by omega), Int.toNat_natCast]
end Go.Proofs.YtmppagiaonbggaaDoor

/- The walk over Body of package record. -/
namespace Go.Proofs.YtmppagiaonbggaaDoor
set_option linter.unusedVariables false
set_option linter.unusedSimpArgs false
set_option maxRecDepth 100000
open Go.RowKit

section
variable {P : Program} {ops : Array Oper} {S : World → Prop} {Q : Exit → Act → World → Prop}
theorem kept_call {T : Act → World → Prop} {l : List Oper} {a : Act} {w : World} {o : Oper} (f : FuncId) (args : Array Value) (hw : Region.wanted o (yielded ops a.tmps) = true) (hr : (execOp a.eval o).run P w = .ok (.enter f args) w)
    (h : Calls P f args w fun e w' => ∃ v, e = .returned v ∧ S w' ∧ wpKept P ops Q S T l (a.put o.dst v) w') : wpKept P ops Q S T (o :: l) a w := by
  unfold wpKept
  rw [if_pos hw]
  unfold Oper.wp
  rw [hr]
  exact h.mono fun e w' ⟨v, he, h1, h2⟩ => by subst he; exact ⟨h1, h2⟩
end

def bodyP (p : Pn) : List UInt8 := onumI p.ch ++ onumI p.wi ++ onumI p.tot ++ p.dg
def bodyR (p : Pn) : List UInt8 × Int := if p.mayB then (bodyP p, 0) else ([], 1)

set_option maxHeartbeats 3200000 in
theorem body_any (p : Pn) (ok : p.ok) (w : World) : Calls Tryd.prog 27 #[.agg (pnL p).toArray] w (RetBE w (bodyR p)) := by
  have hsz := pnL_size ok.dg
  have hb := (Below.refl w.heap.size w).alloc (Nat.le_refl _) (.cells (pnL p).toArray 27)
  have hh := heap_alloc_new w (.cells (pnL p).toArray 27)
  have hinf : (Tryd.prog.info? 27).map (·.size) = some (pnL p).toArray.size := by rw [hsz]; exact infoPlan
  have HM := Lib.hid (fun w => may_any p ok w)
  have K0 := Lib.hid (fun W (h : Below (w.heap.size + 1) (w.alloc (.cells (pnL p).toArray 27)) W) => ((h.cell (p := ⟨w.heap.size, 0, none⟩) (by simp)).trans (cell_of_row _ _ 0 _ _ _ hh)).trans (show _ = some (.int .i64 p.ch) from rfl))
  have K1 := Lib.hid (fun W (h : Below (w.heap.size + 1) (w.alloc (.cells (pnL p).toArray 27)) W) => ((h.cell (p := ⟨w.heap.size, 1, none⟩) (by simp)).trans (cell_of_row _ _ 1 _ _ _ hh)).trans (show _ = some (.int .i64 p.wi) from rfl))
  have K2 := Lib.hid (fun W (h : Below (w.heap.size + 1) (w.alloc (.cells (pnL p).toArray 27)) W) => ((h.cell (p := ⟨w.heap.size, 2, none⟩) (by simp)).trans (cell_of_row _ _ 2 _ _ _ hh)).trans (show _ = some (.int .i64 p.tot) from rfl))
  have K3 : Hid (∀ W (h : Below (w.heap.size + 1) (w.alloc (.cells (pnL p).toArray 27)) W) (c : Nat), Rd W (.slice (some ⟨w.heap.size, 3, none⟩) p.dg.length c) (bytesU p.dg)) := Lib.hid (fun W h c => by
    refine ⟨_, c, by rw [bytesU_length], fun _ => ⟨_, rfl, fun j u hu => ?_⟩⟩
    rw [Addr.add_lit, h.cell (p := ⟨w.heap.size, 3 + j, none⟩) (by simp), cell_of_row _ _ _ _ _ _ hh, Nat.add_comm 3 j]
    simpa [pnL] using hu)
  have Hh := Lib.hid hh
  have Hinf := Lib.hid hinf
  have hdl := ok.dg
  clear hh hinf
  cases hm : p.mayB with
  | false =>
    have hs : bodyR p = ([], 1) := by unfold bodyR; rw [hm]; rfl
    rw [hs]
    rw [hm] at HM
    clear hs hm K0 K1 K2 K3
    generalize (pnL p).toArray = X at *
    go_enter Tryd.func27, Tryd.ntmps27
    go_wp2_with first
      | (refine wpList_load_row rfl 27 (.tmp 1) rfl w.heap.size rfl 27 X (0, 0) _ Hh.out Tryd.underlying27 rfl Hinf.out ?_)
    refine (HM.out _).mono ?_
    rintro e w1 ⟨rfl, b1⟩
    have hb1 := hb.trans (b1.mono (by simp))
    go_wp2
    go_ret2
    exact RetBE.err rfl hb1
  | true =>
    have hs : bodyR p = (onumI p.ch ++ onumI p.wi ++ onumI p.tot ++ p.dg, 0) := by unfold bodyR; rw [hm]; rfl
    rw [hs]
    rw [hm] at HM
    clear hs hm
    obtain ⟨ch, wi, tot, dg⟩ := p
    simp only at K0 K1 K2 K3 hdl ⊢
    generalize (pnL ⟨ch, wi, tot, dg⟩).toArray = X at *
    go_enter Tryd.func27, Tryd.ntmps27
    go_wp2_with first
      | (refine wpList_load_row rfl 27 (.tmp 1) rfl w.heap.size rfl 27 X (0, 0) _ Hh.out Tryd.underlying27 rfl Hinf.out ?_)
    refine (HM.out _).mono ?_
    rintro e w1 ⟨rfl, b1⟩
    have hb1 : Below (w.heap.size + 1) (w.alloc (.cells X 27)) w1 := b1.mono (by simp)
    clear HM b1
    go_wp2
    refine wp_region_lmix (fun W => Below (w.heap.size + 1) (w.alloc (.cells X 27)) W) [0, 3, 6] [1, 4, 7] [] [2, 5] [8, 9] mixed (by kernel_rfl) rfl (fun _ _ _ _ _ h => h) hb1.drew ?_
    simp only [List.filterMap_cons, List.filterMap_nil, List.getElem?_toArray, List.getElem?_cons_succ, List.getElem?_cons_zero]
    repeat (
      refine free_val ?_ rfl (fun w1 => ?_) ?_
      rotate_left
      · (go_simp
         try go_bits
         rfl)
      simp only [Act.put, List.setIfInBounds_toArray, List.set_cons_zero, List.set_cons_succ])
    refine free_nil ?_
    repeat (first
      | (refine late_val ?_ rfl (fun w1 hS => ?_) ?_
         rotate_left
         · (have c0 := K0.out w1 hS; have c1 := K1.out w1 hS; have c2 := K2.out w1 hS
            go_simp
            try go_bits
            rfl)
         simp only [Act.put, List.setIfInBounds_toArray, List.set_cons_zero, List.set_cons_succ])
      | (refine late_off rfl ?_
         simp only [Act.put, List.setIfInBounds_toArray, List.set_cons_zero, List.set_cons_succ]))
    refine late_nil ?_
    refine held_nil (fun w9 hS => ?_)
    have B9 : w.heap.size + 1 ≤ w9.heap.size := by have := hS.size; simpa using this
    obtain ⟨L1, hL1⟩ : ∃ L, L = [] ++ onumI ch := ⟨_, rfl⟩
    obtain ⟨L2, hL2⟩ : ∃ L, L = L1 ++ onumI wi := ⟨_, rfl⟩
    obtain ⟨L3, hL3⟩ : ∃ L, L = L2 ++ onumI tot := ⟨_, rfl⟩
    have l1 : L1.length ≤ 6 := by rw [hL1]; simpa using onumI_len ch
    have l2 : L2.length ≤ 12 := by rw [hL2, List.length_append]; have := onumI_len wi; omega
    have l3 : L3.length ≤ 18 := by rw [hL3, List.length_append]; have := onumI_len tot; omega
    have N1 := number_any (.slice none 0 0) [] (by simp) ch w9 (Rd.nil w9)
    rw [← hL1] at N1
    have N2 := Lib.hid (fun v w h => number_any v L1 (by omega) wi w h)
    rw [← hL2] at N2
    have N3 := Lib.hid (fun v w h => number_any v L2 (by omega) tot w h)
    rw [← hL3] at N3
    have he : L3 ++ dg = onumI ch ++ onumI wi ++ onumI tot ++ dg := by rw [hL3, hL2, hL1]; simp
    have He := Lib.hid he
    clear hL1 hL2 hL3 he
    refine kept_call 35 #[.slice none 0 0, .int .i64 ch] rfl (by go_simp) (N1.mono ?_)
    rintro e w10 ⟨v10, rfl, h10, b10⟩
    have o10 : Own (w.heap.size + 1) (Rw 5 1 v10 L1.length (bytesU L1) * Emp) w10 := Own.fresh B9 (Own.start _ _) h10 b10
    have hb10 := hS.trans (b10.mono B9)
    have B10 := Nat.le_trans B9 b10.size
    have N2' := N2.out v10 w10 o10.rd
    refine ⟨_, rfl, hb10, ?_⟩
    simp only [Act.put, List.setIfInBounds_toArray, List.set_cons_zero, List.set_cons_succ]
    refine kept_call 35 #[v10, .int .i64 wi] rfl (by go_simp) (N2'.mono ?_)
    rintro e w11 ⟨v11, rfl, h11, b11⟩
    have o11 : Own (w.heap.size + 1) (Rw 5 1 v11 L2.length (bytesU L2) * Emp) w11 := Own.fresh B10 (Own.start _ _) h11 b11
    have hb11 := hb10.trans (b11.mono B10)
    have B11 := Nat.le_trans B10 b11.size
    refine ⟨_, rfl, hb11, ?_⟩
    simp only [Act.put, List.setIfInBounds_toArray, List.set_cons_zero, List.set_cons_succ]
    refine kept_nil ?_
    have H12 := Lib.hid (N3.out v11 w11 o11.rd)
    clear o10 o11 h10 h11 b10 b11 hb10 B9 B10 hS hb1 N1 N2 N2' N3
    go_wp2_with fail
    refine H12.out.mono ?_
    rintro e w12 ⟨v12, rfl, h12, b12⟩
    have o12 : Own (w.heap.size + 1) (Rw 5 1 v12 L3.length (bytesU L3) * Emp) w12 := Own.fresh B11 (Own.start _ _) h12 b12
    have hb12 := hb11.trans (b12.mono B11)
    obtain ⟨A12, c12, rfl⟩ := o12.row_n
    obtain ⟨v13, w13, hrun, o13, b13⟩ := byte_append (Nat.le_trans B11 b12.size) o12 (K3.out w12 hb12 32) (by rw [hdl]; omega)
    rw [hdl] at hrun
    have hb13 := (hb.trans (hb12.mono (by omega))).trans (b13.mono (by omega))
    obtain ⟨A13, c13, rfl⟩ := o13.row_n
    have hcap := o13.cap
    have hrd := o13.rd
    have Hrun := Lib.hid hrun
    have Hfin : Hid (RetBE w (onumI ch ++ onumI wi ++ onumI tot ++ dg, 0) (.returned (.tuple #[.slice A13 (L3 ++ dg).length c13, .int .i64 0])) w13) := Lib.hid (by rw [He.out] at hrd hcap ⊢; exact ⟨A13, c13, rfl, hrd, hcap, hb13⟩)
    clear hrun o13 b13 hcap hrd He o12 h12 b12 hb12 hb11 H12 hb13
    generalize L3 ++ dg = L4 at *
    go_wp2_with (at_builtin; refine wpList_append_run rfl (.tmp 17) (.tmp 19) 32 rfl rfl rfl Hrun.out ?_)
    go_ret2
    exact Hfin.out
end Go.Proofs.YtmppagiaonbggaaDoor
