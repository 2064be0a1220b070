/- The walks over the writer that carries at once. -/
import Derived.Test.YtnoofgcjhoiboaaLp
import Derived.Test.YtnoofgcjhoiboaaTwl
namespace Go.Proofs.Ytnoofgcjhoiboaa
set_option linter.unusedVariables false
set_option linter.unusedSimpArgs false
open Go.RowKit

def refV (v : Value) (r : RW) : Value := .agg #[v, .int .i64 r.low, .int .i64 r.width]

theorem refbegin_any (B : Nat) (R : HP) [Loc B R] (w : World) (hB : B ≤ w.heap.size) (hO : Own B R w) :
    Calls Try.prog 18 #[] w (Ret B w (refV (.slice none 0 0) ⟨[], 0, 4294967295⟩) R) := by
  go_enter Try.func18, Try.ntmps18
  go_wp2
  refine bodyPost_ret (results_cell_row rfl _ _ w.heap.size 45 #[.slice none 0 0, .int .i64 0, .int .i64 4294967295] (0, 0) _ rfl (heap_alloc_new w _) Try.underlying45 rfl (by kernel_rfl)) rfl ?_
  exact ⟨rfl, hO.alloc_keep hB _, (Below.refl B w).alloc hB _⟩

set_option maxHeartbeats 800000 in
theorem carried_any (v : Value) (l : List Int) (hb : bytesOk l) (hl : l.length ≤ 1099511627776) (B : Nat) (R : HP) [Loc B R] (w : World) (hB : B ≤ w.heap.size) (hO : Own B (Rw 5 1 v l.length (bytesV l) * R) w) :
    Calls Try.prog 37 #[v] w fun e w' => ∃ v', Ret B w v' (Rw 5 1 v' (carryL l).length (bytesV (carryL l)) * R) e w' := by
  have o1 : Own B (Rw 5 1 (.slice (some ⟨w.heap.size, 0, none⟩) 0 0) ([] : List Int).length (bytesV []) * (Rw 5 1 v l.length (bytesV l) * R)) (w.alloc (.cells #[] 5)) := (hO.new hB 5 #[]).rw_of_bk rfl (by unfold maxLen; decide)
  have B1 : B ≤ (w.alloc (.cells #[] 5)).heap.size := by simp; omega
  have b1 := (Below.refl B w).alloc hB (.cells #[] 5)
  obtain ⟨v2, w2, hrun, o2, b2⟩ := append_two B1 o1 (by show 0 + l.length ≤ _; omega)
  have B2 : B ≤ w2.heap.size := Nat.le_trans B1 b2.size
  rw [List.nil_append] at o2
  have o3 := (o2.cast (sep_left_comm _ _ _)).drop
  obtain ⟨A2, c2, rfl⟩ := o3.row_n
  clear o1 o2 hO
  go_enter Try.func37, Try.ntmps37
  go_wp2_with (at_builtin; refine wpList_append_run rfl (.tmp 5) (.tmp 6) 38 rfl rfl rfl hrun ?_)
  clear hrun
  have Hb := Lib.hid hb
  have Hl := Lib.hid hl
  clear hb hl
  have b2 := b1.trans b2
  clear b1
  go_loopg [4] l.length (fun k i wr => i = .int .i64 ((k : Int) - 1) ∧ ∃ (l1 : List Int) (m : Nat), l1.length = k ∧ Hid (l = l1 ++ List.replicate m 255) ∧ Own B (Rw 5 1 (.slice A2 l.length c2) l.length (bytesV (l1 ++ List.replicate m 0)) * R) wr ∧ Below B w wr)
  case atStart => exact ⟨rfl, l, 0, rfl, Lib.hid (by simp), by simpa using o3, b2⟩
  case round =>
    obtain ⟨rfl, l1, m, hk, hle, ho, hbb⟩ := hrel
    have Bw : B ≤ wr.heap.size := Nat.le_trans hB hbb.size
    by_cases hk0 : gk = 0
    · subst hk0
      obtain rfl : l1 = [] := List.eq_nil_of_length_eq_zero hk
      go_wp2
      go_ret
      have e1 : carryL l = List.replicate m 0 := by rw [hle.out, List.nil_append, carryL_all]
      have e2 : l.length = m := by rw [hle.out]; simp
      refine ⟨.slice A2 l.length c2, rfl, ?_, hbb⟩
      rw [e1, List.length_replicate]
      rw [e2, List.nil_append] at ho
      rw [e2]
      exact ho
    · obtain ⟨j, rfl⟩ : ∃ j, gk = j + 1 := ⟨gk - 1, by omega⟩
      obtain ⟨l2, c, rfl⟩ : ∃ l2 c, l1 = l2 ++ [c] := by
        rcases List.eq_nil_or_concat l1 with rfl | ⟨l2, c, h⟩
        · simp at hk
        · exact ⟨l2, c, by simpa using h⟩
      have hk2 : l2.length = j := by simpa using hk
      have hlen : l.length = j + 1 + m := by rw [hle.out]; simp; omega
      obtain ⟨c0, c1⟩ := Hb.out c (by rw [hle.out]; simp)
      obtain ⟨g, rfl⟩ : ∃ g, A2 = some ⟨g, 0, none⟩ := by
        rcases ho.row.2 with ⟨h, hn⟩ | ⟨g, cap, cur, h, _⟩
        · omega
        · injection h with h; exact ⟨g, h⟩
      have hcell : wr.cell? ⟨g, j, none⟩ = some (.int .u8 c) := by
        rw [ho.row.cellAt j (by omega)]
        simp [bytesV, hk2, List.getElem?_append]
      have hz := ho.row.frozenAt j
      have hst := fun u => ho.row_set Bw j u
      have hnew : ∀ u, (wr.setCell ⟨g, j, none⟩ u).cell? ⟨g, j, none⟩ = some u := fun u => by
        rw [(hst u).1.row.cellAt j (by omega)]
        simp [bytesV, hk2]
      have hbody : ∀ x : Int, (bytesV (l2 ++ [c] ++ List.replicate m 0)).set j (.int .u8 x) = bytesV (l2 ++ [x] ++ List.replicate m 0) := fun x => by
        simp [bytesV, List.set_append, hk2]
      have e1 : ((j + 1 : Nat) : Int) - 1 = (j : Int) := by omega
      have i0 : (0 : Int) ≤ (j : Int) := by omega
      have i1 : (j : Int) < (l.length : Int) := by omega
      have i2 : (l.length : Int) ≤ 1099511627776 := by have := Hl.out; omega
      rw [e1]
      clear e1
      by_cases h255 : c = 255
      · subst h255
        have n0 := hnew (.int .u8 0)
        clear hnew
        go_wp2
        go_roundg j
        case measure => omega
        case rel =>
          refine ⟨rfl, l2, m + 1, hk2, Lib.hid (by rw [hle.out, List.replicate_succ]; simp), ?_, hbb.trans (hst _).2⟩
          have := (hst (.int .u8 0)).1
          rw [hbody 0] at this
          rw [List.replicate_succ]
          simpa using this
      · have c2' : c < 255 := by omega
        have hne : ¬ c + 1 = 0 := by omega
        have n0 := hnew (.int .u8 (c + 1))
        clear hnew
        go_wp2
        go_ret
        have e1 : carryL l = l2 ++ [c + 1] ++ List.replicate m 0 := by rw [hle.out, carryL_end _ _ h255]
        have e2 : (l2 ++ [c + 1] ++ List.replicate m 0).length = l.length := by simp; omega
        refine ⟨.slice (some ⟨g, 0, none⟩) l.length c2, rfl, ?_, hbb.trans (hst _).2⟩
        rw [e1, e2]
        have := (hst (.int .u8 (c + 1))).1
        rw [hbody] at this
        exact this

/-- What stands of the writer that carries at once. -/
structure RW.ok (r : RW) (room : Int) : Prop where
  bytes : bytesOk r.out
  len : (r.out.length : Int) + room ≤ 1099511627776
  low0 : 0 ≤ r.low
  low1 : r.low < 4294967296
  width0 : 0 ≤ r.width
  width1 : r.width < 4294967296
  sum : r.low + r.width < 8589934592

theorem carryL_len (l : List Int) : (carryL l).length = l.length := by
  have h : ∀ l : List Int, (carryR l).length = l.length := by
    intro l
    induction l with
    | nil => rfl
    | cons c l ih => unfold carryR; split <;> simp [ih]
  simp [carryL, h]
theorem carryL_bytes {l : List Int} (hb : bytesOk l) : bytesOk (carryL l) := by
  have h : ∀ l : List Int, bytesOk l → bytesOk (carryR l) := by
    intro l
    induction l with
    | nil => exact fun h => h
    | cons c l ih =>
      intro h
      have hc := h c List.mem_cons_self
      have hl : bytesOk l := fun x hx => h x (List.mem_cons_of_mem _ hx)
      unfold carryR
      split
      · intro x hx
        rcases List.mem_cons.1 hx with rfl | hx
        · omega
        · exact ih hl x hx
      · intro x hx
        rcases List.mem_cons.1 hx with rfl | hx
        · omega
        · exact hl x hx
  intro x hx
  exact h l.reverse (fun y hy => hb y (List.mem_reverse.1 hy)) x (List.mem_reverse.1 hx)
theorem rput1_facts {r : RW} {bound : Int} (bit : Int) {room : Int} (ok : r.ok (room + 1)) (b0 : 65536 ≤ bound) (b1 : bound + 65536 ≤ r.width) :
    (rcarry (rput1 r bound bit)).ok (room + 1) ∧ 65536 ≤ (rcarry (rput1 r bound bit)).width := by
  obtain ⟨out, low, width⟩ := r
  obtain ⟨ob, ol, l0, l1, w0, w1, sm⟩ := ok
  simp only at ob ol l0 l1 w0 w1 sm b1
  by_cases hbit : bit = 0
  · have e : rcarry (rput1 ⟨out, low, width⟩ bound bit) = ⟨out, low, bound⟩ := by unfold rcarry rput1; rw [if_pos hbit, if_neg (by show ¬ 4294967296 ≤ low; omega)]
    rw [e]
    exact ⟨⟨ob, ol, l0, l1, by show 0 ≤ bound; omega, by show bound < _; omega, by show low + bound < _; omega⟩, b0⟩
  · by_cases hcar : 4294967296 ≤ low + bound
    · have e : rcarry (rput1 ⟨out, low, width⟩ bound bit) = ⟨carryL out, low + bound - 4294967296, width - bound⟩ := by unfold rcarry rput1; rw [if_neg hbit, if_pos (by show 4294967296 ≤ low + bound; omega)]
      rw [e]
      exact ⟨⟨carryL_bytes ob, by rw [carryL_len]; exact ol, by show 0 ≤ low + bound - 4294967296; omega, by show low + bound - 4294967296 < _; omega, by show 0 ≤ width - bound; omega, by show width - bound < _; omega, by show low + bound - 4294967296 + (width - bound) < _; omega⟩, by show 65536 ≤ width - bound; omega⟩
    · have e : rcarry (rput1 ⟨out, low, width⟩ bound bit) = ⟨out, low + bound, width - bound⟩ := by unfold rcarry rput1; rw [if_neg hbit, if_neg (by show ¬ 4294967296 ≤ low + bound; omega)]
      rw [e]
      exact ⟨⟨ob, ol, by show 0 ≤ low + bound; omega, by show low + bound < _; omega, by show 0 ≤ width - bound; omega, by show width - bound < _; omega, by show low + bound + (width - bound) < _; omega⟩, by show 65536 ≤ width - bound; omega⟩
theorem rput_ok {r : RW} {bound : Int} (bit : Int) {room : Int} (ok : r.ok (room + 1)) (b0 : 65536 ≤ bound) (b1 : bound + 65536 ≤ r.width) : (rput r bound bit).ok room ∧ 16777216 ≤ (rput r bound bit).width := by
  obtain ⟨⟨ob, ol, l0, l1, w0, w1, sm⟩, hw⟩ := rput1_facts bit ok b0 b1
  unfold rput rnorm
  split
  · refine ⟨⟨?_, by simp; omega, by show 0 ≤ _ % 16777216 * 256; omega, by show _ % 16777216 * 256 < _; omega, by show 0 ≤ _ * 256; omega, by show _ * 256 < _; omega, by show _ % 16777216 * 256 + _ * 256 < _; omega⟩, by show 16777216 ≤ _ * 256; omega⟩
    intro c hc
    rcases List.mem_append.1 hc with h | h
    · exact ob c h
    · simp at h; omega
  · exact ⟨⟨ob, by omega, l0, l1, w0, w1, sm⟩, by omega⟩

def xCells (v : Value) (r : RW) : Array Value := #[v, .int .i64 r.low, .int .i64 r.width]

set_option maxHeartbeats 1600000 in
theorem refput_any (v : Value) (r : RW) (bound bit : Int) (room : Int) (hr : 0 ≤ room) (ok : r.ok (room + 1)) (b0 : 65536 ≤ bound) (b1 : bound + 65536 ≤ r.width) (B : Nat) (R : HP) [Loc B R] (w : World) (hB : B ≤ w.heap.size) (hO : Own B (Rw 5 1 v r.out.length (bytesV r.out) * R) w) :
    Calls Try.prog 34 #[refV v r, .int .i64 bound, .int .i64 bit] w fun e w' => ∃ v', Ret B w (refV v' (rput r bound bit)) (Rw 5 1 v' (rput r bound bit).out.length (bytesV (rput r bound bit).out) * R) e w' := by
  obtain ⟨out, low, width⟩ := r
  obtain ⟨ob, ol, l0, l1, w0, w1, sm⟩ := ok
  simp only at ob ol l0 l1 w0 w1 sm b1
  have hf := rput1_facts (r := ⟨out, low, width⟩) bit ⟨ob, ol, l0, l1, w0, w1, sm⟩ b0 b1
  have Hp : Hid (65536 ≤ (rcarry (rput1 ⟨out, low, width⟩ bound bit)).width ∧ (rcarry (rput1 ⟨out, low, width⟩ bound bit)).width < 4294967296 ∧ 0 ≤ (rcarry (rput1 ⟨out, low, width⟩ bound bit)).low ∧ (rcarry (rput1 ⟨out, low, width⟩ bound bit)).low < 4294967296 ∧ ((rcarry (rput1 ⟨out, low, width⟩ bound bit)).out.length : Int) + (room + 1) ≤ 1099511627776) := Lib.hid ⟨hf.2, hf.1.width1, hf.1.low0, hf.1.low1, hf.1.len⟩
  clear hf
  have Hob := Lib.hid ob
  have Hol := Lib.hid ol
  have hW : ∀ lo wi : Int, Own B (Bk w.heap.size 45 #[v, .int .i64 lo, .int .i64 wi] * (Bk (w.heap.size + 1) 45 #[.slice none 0 0, .int .i64 0, .int .i64 0] * (Rw 5 1 v out.length (bytesV out) * R)))
      ((w.alloc (.cells #[v, .int .i64 lo, .int .i64 wi] 45)).alloc (.cells #[.slice none 0 0, .int .i64 0, .int .i64 0] 45)) ∧
      Below B w ((w.alloc (.cells #[v, .int .i64 lo, .int .i64 wi] 45)).alloc (.cells #[.slice none 0 0, .int .i64 0, .int .i64 0] 45)) := by
    intro lo wi
    have o1 := hO.new hB 45 #[v, .int .i64 lo, .int .i64 wi]
    have b1' := (Below.refl B w).alloc hB (.cells #[v, .int .i64 lo, .int .i64 wi] 45)
    have B1 : B ≤ (w.alloc (.cells #[v, .int .i64 lo, .int .i64 wi] 45)).heap.size := by simp; omega
    have o2 := o1.new B1 45 #[.slice none 0 0, .int .i64 0, .int .i64 0]
    rw [show (w.alloc (.cells #[v, .int .i64 lo, .int .i64 wi] 45)).heap.size = w.heap.size + 1 by simp] at o2
    exact ⟨o2.cast (sep_left_comm _ _ _), b1'.alloc B1 _⟩
  have HW := Lib.hid hW
  clear hW hO
  show Calls _ _ #[.agg #[v, .int .i64 low, .int .i64 width], .int .i64 bound, .int .i64 bit] _ _
  go_enter Try.func34, Try.ntmps34
  by_cases hbit : bit = 0
  · subst hbit
    have He1 : Hid ((⟨out, low, bound⟩ : RW) = rcarry (rput1 ⟨out, low, width⟩ bound 0)) := Lib.hid (by unfold rcarry rput1; rw [if_pos rfl, if_neg (by show ¬ 4294967296 ≤ low; omega)])
    have o4 := (HW.out low bound).1
    have b4 := (HW.out low bound).2
    go_wp2
    go_loopg [] 1 (fun k wr => ∃ (v' : Value) (r' : RW), Own B (Bk w.heap.size 45 (xCells v' r') * (Bk (w.heap.size + 1) 45 #[.slice none 0 0, .int .i64 0, .int .i64 0] * (Rw 5 1 v' r'.out.length (bytesV r'.out) * R))) wr ∧ Below B w wr ∧ Hid ((k = 1 ∧ r' = rcarry (rput1 ⟨out, low, width⟩ bound 0)) ∨ (k = 0 ∧ r' = rput ⟨out, low, width⟩ bound 0 ∧ 16777216 ≤ r'.width)))
    case atStart => exact ⟨v, ⟨out, low, bound⟩, o4, b4, Lib.hid (.inl ⟨rfl, He1.out⟩)⟩
    case round =>
      obtain ⟨v', r', ho, hbb, hk⟩ := hrel
      have Bw : B ≤ wr.heap.size := Nat.le_trans hB hbb.size
      obtain ⟨A', c', rfl⟩ := (ho.cast (show _ = Rw _ _ v' _ _ * (Bk _ _ (xCells v' r') * (Bk _ _ _ * R)) by ac_rfl)).row_n
      have c0 : wr.cell? ⟨w.heap.size, 0, none⟩ = some (.slice A' r'.out.length c') := ho.cell 0
      have c1 : wr.cell? ⟨w.heap.size, 1, none⟩ = some (.int .i64 r'.low) := ho.cell 1
      have c2 : wr.cell? ⟨w.heap.size, 2, none⟩ = some (.int .i64 r'.width) := ho.cell 2
      have oY := ho.cast (sep_left_comm _ _ _)
      by_cases hlt : r'.width < 16777216
      · have hk2 : gk = 1 ∧ r' = rcarry (rput1 ⟨out, low, width⟩ bound 0) := by
          rcases hk.out with h | ⟨_, _, h⟩
          · exact h
          · omega
        obtain ⟨rfl, hr'⟩ := hk2
        obtain ⟨p0, p1, p2, p3, p4⟩ := Hp.out
        rw [← hr'] at p0 p1 p2 p3 p4
        have Hr' := Lib.hid hr'
        have Hn := Lib.hid p4
        clear hr' hk p4
        go_wp2
        refine wp_region_ltwo (B := B) [1, 4] [2, 5, 6, 7] [0, 3] [8] [9, 10, 11] (Rw 5 1 (.slice A' r'.out.length c') r'.out.length (bytesV r'.out)) Emp (Bk w.heap.size 45 (xCells (.slice A' r'.out.length c') r') * (Bk (w.heap.size + 1) 45 #[.slice none 0 0, .int .i64 0, .int .i64 0] * R)) mixed (by kernel_rfl) rfl (fun _ _ _ _ _ h => h) Bw ((ho.emp.cast (by ac_rfl)).drew Bw) ?_
        simp only [List.filterMap_cons, List.filterMap_nil, List.getElem?_toArray, List.getElem?_cons_succ, List.getElem?_cons_zero]
        repeat (
          refine free_val ?_ rfl (fun w1 => ?_) ?_
          rotate_left
          · (go_simp
             try go_bits
             rfl)
          simp only [Act.put, List.setIfInBounds_toArray, List.set_cons_zero, List.set_cons_succ])
        refine free_nil ?_
        repeat (first
          | (refine late_val ?_ rfl (fun w1 hS => ?_) ?_
             rotate_left
             · (have c0 : w1.cell? ⟨w.heap.size, 0, none⟩ = some (.slice A' r'.out.length c') := hS.cell 0; have c1 : w1.cell? ⟨w.heap.size, 1, none⟩ = some (.int .i64 r'.low) := hS.cell 1
                go_simp
                try go_bits
                rfl)
             simp only [Act.put, List.setIfInBounds_toArray, List.set_cons_zero, List.set_cons_succ])
          | (refine late_off rfl ?_
             simp only [Act.put, List.setIfInBounds_toArray, List.set_cons_zero, List.set_cons_succ]))
        refine late_nil ?_
        refine ⟨fun vs F => ∃ v0 v3, vs = [v0, v3] ∧ F = (Rw 5 1 v3 r'.out.length (bytesV r'.out) * Rw 5 1 (.slice A' r'.out.length c') r'.out.length (bytesV r'.out)), fun vs F => ∃ v8, vs = [v8] ∧ F = Rw 5 1 v8 [r'.low / 16777216].length (bytesV [r'.low / 16777216]), ?_, ?_, ?_⟩
        · simp only [opsOf, List.filterMap_cons, List.filterMap_nil, List.getElem?_toArray, List.getElem?_cons_succ, List.getElem?_cons_zero]
          refine tw_run (fun v F => F = (Rw 5 1 v ([] : List Int).length (bytesV []) * Rw 5 1 (.slice A' r'.out.length c') r'.out.length (bytesV r'.out))) rfl (fun R1 _ w1 hB1 hS => ⟨.slice (some ⟨w1.heap.size, 0, none⟩) 0 0, _, w1.alloc (.cells #[] 5), by go_simp, ⟨inferInstance, rfl⟩, ((hS.new hB1 5 #[]).rw_of_bk rfl (by unfold maxLen; decide)).assoc', (Below.refl B w1).alloc hB1 _⟩) ?_
          rintro v0 F0 _ rfl
          simp only [Act.put, List.setIfInBounds_toArray, List.set_cons_zero, List.set_cons_succ]
          refine tw_run (fun v F => F = (Rw 5 1 v r'.out.length (bytesV r'.out) * Rw 5 1 (.slice A' r'.out.length c') r'.out.length (bytesV r'.out))) rfl (fun R1 _ w1 hB1 hS => ?_) ?_
          · obtain ⟨v3, w3, hrun, o3, b3⟩ := append_two hB1 hS.assoc (by have := Hn.out; show 0 + _ ≤ _; omega)
            rw [List.nil_append] at o3
            exact ⟨v3, _, w3, exec_append (.tmp 35) (.tmp 37) 38 rfl rfl rfl hrun, ⟨inferInstance, rfl⟩, o3.assoc', b3⟩
          · rintro v3 F3 _ rfl
            exact tw_nil ⟨v0, v3, rfl, rfl⟩
        · simp only [opsOf, List.filterMap_cons, List.filterMap_nil, List.getElem?_toArray, List.getElem?_cons_succ, List.getElem?_cons_zero]
          refine tw_run (fun v F => F = Rw 5 1 v [r'.low / 16777216].length (bytesV [r'.low / 16777216])) rfl (fun R1 _ w1 hB1 hS => ⟨.slice (some ⟨w1.heap.size, 0, none⟩) 1 1, _, w1.alloc (.cells #[.int .u8 (r'.low / 16777216)] 5), by go_simp, ⟨inferInstance, rfl⟩, (hS.right.new hB1 5 #[.int .u8 (r'.low / 16777216)]).rw_of_bk rfl (by unfold maxLen; decide), (Below.refl B w1).alloc hB1 _⟩) ?_
          rintro v8 F8 _ rfl
          exact tw_nil ⟨v8, rfl, rfl⟩
        · rintro vs1 F1 vs2 F2 w4 ⟨v0, v3, rfl, rfl⟩ ⟨v8, rfl, rfl⟩ o4 b4
          simp only [opsOf, putAll, Act.put, List.filterMap_cons, List.filterMap_nil, List.getElem?_toArray, List.getElem?_cons_succ, List.getElem?_cons_zero, List.setIfInBounds_toArray, List.set_cons_zero, List.set_cons_succ]
          have B4 := Nat.le_trans Bw b4.size
          have o4 : Own B (Rw 5 1 v3 r'.out.length (bytesV r'.out) * (Rw 5 1 v8 [r'.low / 16777216].length (bytesV [r'.low / 16777216]) * (Bk w.heap.size 45 (xCells (.slice A' r'.out.length c') r') * (Bk (w.heap.size + 1) 45 #[.slice none 0 0, .int .i64 0, .int .i64 0] * R)))) w4 :=
            (o4.cast (show _ = Rw 5 1 (.slice A' r'.out.length c') r'.out.length (bytesV r'.out) * (Rw 5 1 v3 r'.out.length (bytesV r'.out) * (Rw 5 1 v8 [r'.low / 16777216].length (bytesV [r'.low / 16777216]) * (Bk w.heap.size 45 (xCells (.slice A' r'.out.length c') r') * (Bk (w.heap.size + 1) 45 #[.slice none 0 0, .int .i64 0, .int .i64 0] * R)))) by ac_rfl)).right
          obtain ⟨v9, w5, hrun, o5, b5⟩ := append_two B4 o4 (by have := Hn.out; show _ + 1 ≤ _; omega)
          have B5 := Nat.le_trans B4 b5.size
          obtain ⟨A9, c9, rfl⟩ : ∃ A c, v9 = .slice A (r'.out.length + 1) c := by obtain ⟨A, c, h⟩ := o5.row_n; exact ⟨A, c, by rw [h]; simp⟩
          refine wpList_append_run rfl (.tmp 38) (.tmp 43) 38 rfl rfl rfl hrun ?_
          simp only [Act.put, List.setIfInBounds_toArray, List.set_cons_zero, List.set_cons_succ]
          clear hrun c0 c1 c2
          have o6 : Own B (Bk w.heap.size 45 (xCells (.slice A' r'.out.length c') r') * (Bk (w.heap.size + 1) 45 #[.slice none 0 0, .int .i64 0, .int .i64 0] * (Rw 5 1 (.slice A9 (r'.out.length + 1) c9) (r'.out ++ [r'.low / 16777216]).length (bytesV (r'.out ++ [r'.low / 16777216])) * R))) w5 :=
            (o5.cast (show _ = Rw 5 1 v8 [r'.low / 16777216].length (bytesV [r'.low / 16777216]) * (Bk w.heap.size 45 (xCells (.slice A' r'.out.length c') r') * (Bk (w.heap.size + 1) 45 #[.slice none 0 0, .int .i64 0, .int .i64 0] * (Rw 5 1 (.slice A9 (r'.out.length + 1) c9) (r'.out ++ [r'.low / 16777216]).length (bytesV (r'.out ++ [r'.low / 16777216])) * R))) by ac_rfl)).right
          have c0 : w5.cell? ⟨w.heap.size, 0, none⟩ = some (.slice A' r'.out.length c') := o6.cell 0
          have c1 : w5.cell? ⟨w.heap.size, 1, none⟩ = some (.int .i64 r'.low) := o6.cell 1
          have c2 : w5.cell? ⟨w.heap.size, 2, none⟩ = some (.int .i64 r'.width) := o6.cell 2
          have z0 := o6.unfrozen 0
          have z1 := o6.unfrozen 1
          have z2 := o6.unfrozen 2
          have s0 := o6.set B5 0 (.slice A9 (r'.out.length + 1) c9)
          have s1 := s0.set (by simpa [World.setCell] using B5) 1 (.int .i64 (r'.low % 16777216 * 256))
          have s2 := s1.set (by simpa [World.setCell] using B5) 2 (.int .i64 (r'.width * 256))
          have d1 : (w5.setCell ⟨w.heap.size, 0, none⟩ (.slice A9 (r'.out.length + 1) c9)).cell? ⟨w.heap.size, 1, none⟩ = some (.int .i64 r'.low) := s0.cell 1
          have d2 : ((w5.setCell ⟨w.heap.size, 0, none⟩ (.slice A9 (r'.out.length + 1) c9)).setCell ⟨w.heap.size, 1, none⟩ (.int .i64 (r'.low % 16777216 * 256))).cell? ⟨w.heap.size, 2, none⟩ = some (.int .i64 r'.width) := s1.cell 2
          have t2 := (((b4.trans b5).trans (o6.below_set 0 (.slice A9 (r'.out.length + 1) c9))).trans (s0.below_set 1 (.int .i64 (r'.low % 16777216 * 256)))).trans (s1.below_set 2 (.int .i64 (r'.width * 256)))
          go_wp2
          go_roundg 0
          case measure => omega
          case rel =>
            have e9 : rnorm r' = ⟨r'.out ++ [r'.low / 16777216], r'.low % 16777216 * 256, r'.width * 256⟩ := by unfold rnorm; rw [if_pos hlt]
            refine ⟨.slice A9 (r'.out.length + 1) c9, rnorm r', ?_, hbb.trans t2, Lib.hid (.inr ⟨rfl, by rw [Hr'.out]; rfl, by rw [e9]; show 16777216 ≤ r'.width * 256; omega⟩)⟩
            rw [e9]
            exact s2
      · have hfin : r' = rput ⟨out, low, width⟩ bound 0 := by
          rcases hk.out with ⟨_, h⟩ | ⟨_, h, _⟩
          · unfold rput rnorm; rw [← h, if_neg hlt]
          · exact h
        have q0 : wr.cell? ⟨w.heap.size + 1, 0, none⟩ = some (.slice none 0 0) := oY.cell 0
        have q1 : wr.cell? ⟨w.heap.size + 1, 1, none⟩ = some (.int .i64 0) := oY.cell 1
        have q2 : wr.cell? ⟨w.heap.size + 1, 2, none⟩ = some (.int .i64 0) := oY.cell 2
        have y0 := oY.unfrozen 0
        have y1 := oY.unfrozen 1
        have y2 := oY.unfrozen 2
        have s0 := oY.set Bw 0 (.slice A' r'.out.length c')
        have s1 := s0.set (by simpa [World.setCell] using Bw) 1 (.int .i64 r'.low)
        have s2 := s1.set (by simpa [World.setCell] using Bw) 2 (.int .i64 r'.width)
        have t2 := ((oY.below_set 0 (.slice A' r'.out.length c')).trans (s0.below_set 1 (.int .i64 r'.low))).trans (s1.below_set 2 (.int .i64 r'.width))
        have Hfin := Lib.hid hfin
        clear hfin hk
        go_wp2
        refine bodyPost_ret (results_cell_row rfl _ _ (w.heap.size + 1) 45 #[.slice A' r'.out.length c', .int .i64 r'.low, .int .i64 r'.width] (0, 0) _ rfl s2.bk.1 Try.underlying45 rfl (by kernel_rfl)) rfl ?_
        rw [← Hfin.out]
        exact ⟨.slice A' r'.out.length c', rfl, (s2.cast (show _ = Bk _ _ _ * (Bk _ _ _ * (Rw _ _ _ _ _ * R)) by ac_rfl)).right.right, hbb.trans t2⟩
  · have hbit' : (bit == 0) = false := by simpa using hbit
    by_cases hcar : 4294967296 ≤ low + bound
    · have hin : low + bound - 4294967296 < 4294967296 := by omega
      have He1 : Hid ((⟨carryL out, low + bound - 4294967296, width - bound⟩ : RW) = rcarry (rput1 ⟨out, low, width⟩ bound bit)) := Lib.hid (by unfold rcarry rput1; rw [if_neg hbit, if_pos (by show 4294967296 ≤ low + bound; omega)])
      have o3 := (HW.out (low + bound - 4294967296) (width - bound)).1
      have b3 := (HW.out (low + bound - 4294967296) (width - bound)).2
      have B3 := Nat.le_trans hB b3.size
      go_wp2_with fail
      refine (carried_any v out Hob.out (by have := Hol.out; omega) B _ _ B3 (o3.cast (show _ = Rw _ _ v _ _ * (Bk w.heap.size _ _ * (Bk (w.heap.size + 1) _ _ * R)) by ac_rfl))).mono ?_
      rintro e w4 ⟨v4, rfl, o4, b4⟩
      obtain ⟨A4, c4, rfl⟩ := o4.row_n
      have B4 := Nat.le_trans B3 b4.size
      have o4 := o4.cast (show _ = Bk w.heap.size _ _ * (Bk (w.heap.size + 1) _ _ * (Rw _ _ (.slice A4 (carryL out).length c4) _ _ * R)) by ac_rfl)
      have z0 := o4.unfrozen 0
      have c0 : w4.cell? ⟨w.heap.size, 0, none⟩ = some v := o4.cell 0
      have o5 := o4.set B4 0 (.slice A4 (carryL out).length c4)
      have b5 := (b3.trans b4).trans (o4.below_set 0 (.slice A4 (carryL out).length c4))
      clear o3 b3 B3
      go_wp2
      clear c0 z0
      go_loopg [] 1 (fun k wr => ∃ (v' : Value) (r' : RW), Own B (Bk w.heap.size 45 (xCells v' r') * (Bk (w.heap.size + 1) 45 #[.slice none 0 0, .int .i64 0, .int .i64 0] * (Rw 5 1 v' r'.out.length (bytesV r'.out) * R))) wr ∧ Below B w wr ∧ Hid ((k = 1 ∧ r' = rcarry (rput1 ⟨out, low, width⟩ bound bit)) ∨ (k = 0 ∧ r' = rput ⟨out, low, width⟩ bound bit ∧ 16777216 ≤ r'.width)))
      case atStart => exact ⟨.slice A4 (carryL out).length c4, ⟨carryL out, bound + low - 4294967296, width - bound⟩, o5, b5, Lib.hid (.inl ⟨rfl, by rw [← He1.out, Int.add_comm bound low]⟩)⟩
      case round =>
        obtain ⟨v', r', ho, hbb, hk⟩ := hrel
        have Bw : B ≤ wr.heap.size := Nat.le_trans hB hbb.size
        obtain ⟨A', c', rfl⟩ := (ho.cast (show _ = Rw _ _ v' _ _ * (Bk _ _ (xCells v' r') * (Bk _ _ _ * R)) by ac_rfl)).row_n
        have c0 : wr.cell? ⟨w.heap.size, 0, none⟩ = some (.slice A' r'.out.length c') := ho.cell 0
        have c1 : wr.cell? ⟨w.heap.size, 1, none⟩ = some (.int .i64 r'.low) := ho.cell 1
        have c2 : wr.cell? ⟨w.heap.size, 2, none⟩ = some (.int .i64 r'.width) := ho.cell 2
        have oY := ho.cast (sep_left_comm _ _ _)
        by_cases hlt : r'.width < 16777216
        · have hk2 : gk = 1 ∧ r' = rcarry (rput1 ⟨out, low, width⟩ bound bit) := by
            rcases hk.out with h | ⟨_, _, h⟩
            · exact h
            · omega
          obtain ⟨rfl, hr'⟩ := hk2
          obtain ⟨p0, p1, p2, p3, p4⟩ := Hp.out
          rw [← hr'] at p0 p1 p2 p3 p4
          have Hr' := Lib.hid hr'
          have Hn := Lib.hid p4
          clear hr' hk p4
          go_wp2
          refine wp_region_ltwo (B := B) [1, 4] [2, 5, 6, 7] [0, 3] [8] [9, 10, 11] (Rw 5 1 (.slice A' r'.out.length c') r'.out.length (bytesV r'.out)) Emp (Bk w.heap.size 45 (xCells (.slice A' r'.out.length c') r') * (Bk (w.heap.size + 1) 45 #[.slice none 0 0, .int .i64 0, .int .i64 0] * R)) mixed (by kernel_rfl) rfl (fun _ _ _ _ _ h => h) Bw ((ho.emp.cast (by ac_rfl)).drew Bw) ?_
          simp only [List.filterMap_cons, List.filterMap_nil, List.getElem?_toArray, List.getElem?_cons_succ, List.getElem?_cons_zero]
          repeat (
            refine free_val ?_ rfl (fun w1 => ?_) ?_
            rotate_left
            · (go_simp
               try go_bits
               rfl)
            simp only [Act.put, List.setIfInBounds_toArray, List.set_cons_zero, List.set_cons_succ])
          refine free_nil ?_
          repeat (first
            | (refine late_val ?_ rfl (fun w1 hS => ?_) ?_
               rotate_left
               · (have c0 : w1.cell? ⟨w.heap.size, 0, none⟩ = some (.slice A' r'.out.length c') := hS.cell 0; have c1 : w1.cell? ⟨w.heap.size, 1, none⟩ = some (.int .i64 r'.low) := hS.cell 1
                  go_simp
                  try go_bits
                  rfl)
               simp only [Act.put, List.setIfInBounds_toArray, List.set_cons_zero, List.set_cons_succ])
            | (refine late_off rfl ?_
               simp only [Act.put, List.setIfInBounds_toArray, List.set_cons_zero, List.set_cons_succ]))
          refine late_nil ?_
          refine ⟨fun vs F => ∃ v0 v3, vs = [v0, v3] ∧ F = (Rw 5 1 v3 r'.out.length (bytesV r'.out) * Rw 5 1 (.slice A' r'.out.length c') r'.out.length (bytesV r'.out)), fun vs F => ∃ v8, vs = [v8] ∧ F = Rw 5 1 v8 [r'.low / 16777216].length (bytesV [r'.low / 16777216]), ?_, ?_, ?_⟩
          · simp only [opsOf, List.filterMap_cons, List.filterMap_nil, List.getElem?_toArray, List.getElem?_cons_succ, List.getElem?_cons_zero]
            refine tw_run (fun v F => F = (Rw 5 1 v ([] : List Int).length (bytesV []) * Rw 5 1 (.slice A' r'.out.length c') r'.out.length (bytesV r'.out))) rfl (fun R1 _ w1 hB1 hS => ⟨.slice (some ⟨w1.heap.size, 0, none⟩) 0 0, _, w1.alloc (.cells #[] 5), by go_simp, ⟨inferInstance, rfl⟩, ((hS.new hB1 5 #[]).rw_of_bk rfl (by unfold maxLen; decide)).assoc', (Below.refl B w1).alloc hB1 _⟩) ?_
            rintro v0 F0 _ rfl
            simp only [Act.put, List.setIfInBounds_toArray, List.set_cons_zero, List.set_cons_succ]
            refine tw_run (fun v F => F = (Rw 5 1 v r'.out.length (bytesV r'.out) * Rw 5 1 (.slice A' r'.out.length c') r'.out.length (bytesV r'.out))) rfl (fun R1 _ w1 hB1 hS => ?_) ?_
            · obtain ⟨v3, w3, hrun, o3, b3⟩ := append_two hB1 hS.assoc (by have := Hn.out; show 0 + _ ≤ _; omega)
              rw [List.nil_append] at o3
              exact ⟨v3, _, w3, exec_append (.tmp 35) (.tmp 37) 38 rfl rfl rfl hrun, ⟨inferInstance, rfl⟩, o3.assoc', b3⟩
            · rintro v3 F3 _ rfl
              exact tw_nil ⟨v0, v3, rfl, rfl⟩
          · simp only [opsOf, List.filterMap_cons, List.filterMap_nil, List.getElem?_toArray, List.getElem?_cons_succ, List.getElem?_cons_zero]
            refine tw_run (fun v F => F = Rw 5 1 v [r'.low / 16777216].length (bytesV [r'.low / 16777216])) rfl (fun R1 _ w1 hB1 hS => ⟨.slice (some ⟨w1.heap.size, 0, none⟩) 1 1, _, w1.alloc (.cells #[.int .u8 (r'.low / 16777216)] 5), by go_simp, ⟨inferInstance, rfl⟩, (hS.right.new hB1 5 #[.int .u8 (r'.low / 16777216)]).rw_of_bk rfl (by unfold maxLen; decide), (Below.refl B w1).alloc hB1 _⟩) ?_
            rintro v8 F8 _ rfl
            exact tw_nil ⟨v8, rfl, rfl⟩
          · rintro vs1 F1 vs2 F2 w4 ⟨v0, v3, rfl, rfl⟩ ⟨v8, rfl, rfl⟩ o4 b4
            simp only [opsOf, putAll, Act.put, List.filterMap_cons, List.filterMap_nil, List.getElem?_toArray, List.getElem?_cons_succ, List.getElem?_cons_zero, List.setIfInBounds_toArray, List.set_cons_zero, List.set_cons_succ]
            have B4 := Nat.le_trans Bw b4.size
            have o4 : Own B (Rw 5 1 v3 r'.out.length (bytesV r'.out) * (Rw 5 1 v8 [r'.low / 16777216].length (bytesV [r'.low / 16777216]) * (Bk w.heap.size 45 (xCells (.slice A' r'.out.length c') r') * (Bk (w.heap.size + 1) 45 #[.slice none 0 0, .int .i64 0, .int .i64 0] * R)))) w4 :=
              (o4.cast (show _ = Rw 5 1 (.slice A' r'.out.length c') r'.out.length (bytesV r'.out) * (Rw 5 1 v3 r'.out.length (bytesV r'.out) * (Rw 5 1 v8 [r'.low / 16777216].length (bytesV [r'.low / 16777216]) * (Bk w.heap.size 45 (xCells (.slice A' r'.out.length c') r') * (Bk (w.heap.size + 1) 45 #[.slice none 0 0, .int .i64 0, .int .i64 0] * R)))) by ac_rfl)).right
            obtain ⟨v9, w5, hrun, o5, b5⟩ := append_two B4 o4 (by have := Hn.out; show _ + 1 ≤ _; omega)
            have B5 := Nat.le_trans B4 b5.size
            obtain ⟨A9, c9, rfl⟩ : ∃ A c, v9 = .slice A (r'.out.length + 1) c := by obtain ⟨A, c, h⟩ := o5.row_n; exact ⟨A, c, by rw [h]; simp⟩
            refine wpList_append_run rfl (.tmp 38) (.tmp 43) 38 rfl rfl rfl hrun ?_
            simp only [Act.put, List.setIfInBounds_toArray, List.set_cons_zero, List.set_cons_succ]
            clear hrun c0 c1 c2
            have o6 : Own B (Bk w.heap.size 45 (xCells (.slice A' r'.out.length c') r') * (Bk (w.heap.size + 1) 45 #[.slice none 0 0, .int .i64 0, .int .i64 0] * (Rw 5 1 (.slice A9 (r'.out.length + 1) c9) (r'.out ++ [r'.low / 16777216]).length (bytesV (r'.out ++ [r'.low / 16777216])) * R))) w5 :=
              (o5.cast (show _ = Rw 5 1 v8 [r'.low / 16777216].length (bytesV [r'.low / 16777216]) * (Bk w.heap.size 45 (xCells (.slice A' r'.out.length c') r') * (Bk (w.heap.size + 1) 45 #[.slice none 0 0, .int .i64 0, .int .i64 0] * (Rw 5 1 (.slice A9 (r'.out.length + 1) c9) (r'.out ++ [r'.low / 16777216]).length (bytesV (r'.out ++ [r'.low / 16777216])) * R))) by ac_rfl)).right
            have c0 : w5.cell? ⟨w.heap.size, 0, none⟩ = some (.slice A' r'.out.length c') := o6.cell 0
            have c1 : w5.cell? ⟨w.heap.size, 1, none⟩ = some (.int .i64 r'.low) := o6.cell 1
            have c2 : w5.cell? ⟨w.heap.size, 2, none⟩ = some (.int .i64 r'.width) := o6.cell 2
            have z0 := o6.unfrozen 0
            have z1 := o6.unfrozen 1
            have z2 := o6.unfrozen 2
            have s0 := o6.set B5 0 (.slice A9 (r'.out.length + 1) c9)
            have s1 := s0.set (by simpa [World.setCell] using B5) 1 (.int .i64 (r'.low % 16777216 * 256))
            have s2 := s1.set (by simpa [World.setCell] using B5) 2 (.int .i64 (r'.width * 256))
            have d1 : (w5.setCell ⟨w.heap.size, 0, none⟩ (.slice A9 (r'.out.length + 1) c9)).cell? ⟨w.heap.size, 1, none⟩ = some (.int .i64 r'.low) := s0.cell 1
            have d2 : ((w5.setCell ⟨w.heap.size, 0, none⟩ (.slice A9 (r'.out.length + 1) c9)).setCell ⟨w.heap.size, 1, none⟩ (.int .i64 (r'.low % 16777216 * 256))).cell? ⟨w.heap.size, 2, none⟩ = some (.int .i64 r'.width) := s1.cell 2
            have t2 := (((b4.trans b5).trans (o6.below_set 0 (.slice A9 (r'.out.length + 1) c9))).trans (s0.below_set 1 (.int .i64 (r'.low % 16777216 * 256)))).trans (s1.below_set 2 (.int .i64 (r'.width * 256)))
            go_wp2
            go_roundg 0
            case measure => omega
            case rel =>
              have e9 : rnorm r' = ⟨r'.out ++ [r'.low / 16777216], r'.low % 16777216 * 256, r'.width * 256⟩ := by unfold rnorm; rw [if_pos hlt]
              refine ⟨.slice A9 (r'.out.length + 1) c9, rnorm r', ?_, hbb.trans t2, Lib.hid (.inr ⟨rfl, by rw [Hr'.out]; rfl, by rw [e9]; show 16777216 ≤ r'.width * 256; omega⟩)⟩
              rw [e9]
              exact s2
        · have hfin : r' = rput ⟨out, low, width⟩ bound bit := by
            rcases hk.out with ⟨_, h⟩ | ⟨_, h, _⟩
            · unfold rput rnorm; rw [← h, if_neg hlt]
            · exact h
          have q0 : wr.cell? ⟨w.heap.size + 1, 0, none⟩ = some (.slice none 0 0) := oY.cell 0
          have q1 : wr.cell? ⟨w.heap.size + 1, 1, none⟩ = some (.int .i64 0) := oY.cell 1
          have q2 : wr.cell? ⟨w.heap.size + 1, 2, none⟩ = some (.int .i64 0) := oY.cell 2
          have y0 := oY.unfrozen 0
          have y1 := oY.unfrozen 1
          have y2 := oY.unfrozen 2
          have s0 := oY.set Bw 0 (.slice A' r'.out.length c')
          have s1 := s0.set (by simpa [World.setCell] using Bw) 1 (.int .i64 r'.low)
          have s2 := s1.set (by simpa [World.setCell] using Bw) 2 (.int .i64 r'.width)
          have t2 := ((oY.below_set 0 (.slice A' r'.out.length c')).trans (s0.below_set 1 (.int .i64 r'.low))).trans (s1.below_set 2 (.int .i64 r'.width))
          have Hfin := Lib.hid hfin
          clear hfin hk
          go_wp2
          refine bodyPost_ret (results_cell_row rfl _ _ (w.heap.size + 1) 45 #[.slice A' r'.out.length c', .int .i64 r'.low, .int .i64 r'.width] (0, 0) _ rfl s2.bk.1 Try.underlying45 rfl (by kernel_rfl)) rfl ?_
          rw [← Hfin.out]
          exact ⟨.slice A' r'.out.length c', rfl, (s2.cast (show _ = Bk _ _ _ * (Bk _ _ _ * (Rw _ _ _ _ _ * R)) by ac_rfl)).right.right, hbb.trans t2⟩
    · have He1 : Hid ((⟨out, low + bound, width - bound⟩ : RW) = rcarry (rput1 ⟨out, low, width⟩ bound bit)) := Lib.hid (by unfold rcarry rput1; rw [if_neg hbit, if_neg (by show ¬ 4294967296 ≤ low + bound; omega)])
      have o4 := (HW.out (low + bound) (width - bound)).1
      have b4 := (HW.out (low + bound) (width - bound)).2
      go_wp2
      go_loopg [] 1 (fun k wr => ∃ (v' : Value) (r' : RW), Own B (Bk w.heap.size 45 (xCells v' r') * (Bk (w.heap.size + 1) 45 #[.slice none 0 0, .int .i64 0, .int .i64 0] * (Rw 5 1 v' r'.out.length (bytesV r'.out) * R))) wr ∧ Below B w wr ∧ Hid ((k = 1 ∧ r' = rcarry (rput1 ⟨out, low, width⟩ bound bit)) ∨ (k = 0 ∧ r' = rput ⟨out, low, width⟩ bound bit ∧ 16777216 ≤ r'.width)))
      case atStart => exact ⟨v, ⟨out, low + bound, width - bound⟩, o4, b4, Lib.hid (.inl ⟨rfl, He1.out⟩)⟩
      case round =>
        obtain ⟨v', r', ho, hbb, hk⟩ := hrel
        have Bw : B ≤ wr.heap.size := Nat.le_trans hB hbb.size
        obtain ⟨A', c', rfl⟩ := (ho.cast (show _ = Rw _ _ v' _ _ * (Bk _ _ (xCells v' r') * (Bk _ _ _ * R)) by ac_rfl)).row_n
        have c0 : wr.cell? ⟨w.heap.size, 0, none⟩ = some (.slice A' r'.out.length c') := ho.cell 0
        have c1 : wr.cell? ⟨w.heap.size, 1, none⟩ = some (.int .i64 r'.low) := ho.cell 1
        have c2 : wr.cell? ⟨w.heap.size, 2, none⟩ = some (.int .i64 r'.width) := ho.cell 2
        have oY := ho.cast (sep_left_comm _ _ _)
        by_cases hlt : r'.width < 16777216
        · have hk2 : gk = 1 ∧ r' = rcarry (rput1 ⟨out, low, width⟩ bound bit) := by
            rcases hk.out with h | ⟨_, _, h⟩
            · exact h
            · omega
          obtain ⟨rfl, hr'⟩ := hk2
          obtain ⟨p0, p1, p2, p3, p4⟩ := Hp.out
          rw [← hr'] at p0 p1 p2 p3 p4
          have Hr' := Lib.hid hr'
          have Hn := Lib.hid p4
          clear hr' hk p4
          go_wp2
          refine wp_region_ltwo (B := B) [1, 4] [2, 5, 6, 7] [0, 3] [8] [9, 10, 11] (Rw 5 1 (.slice A' r'.out.length c') r'.out.length (bytesV r'.out)) Emp (Bk w.heap.size 45 (xCells (.slice A' r'.out.length c') r') * (Bk (w.heap.size + 1) 45 #[.slice none 0 0, .int .i64 0, .int .i64 0] * R)) mixed (by kernel_rfl) rfl (fun _ _ _ _ _ h => h) Bw ((ho.emp.cast (by ac_rfl)).drew Bw) ?_
          simp only [List.filterMap_cons, List.filterMap_nil, List.getElem?_toArray, List.getElem?_cons_succ, List.getElem?_cons_zero]
          repeat (
            refine free_val ?_ rfl (fun w1 => ?_) ?_
            rotate_left
            · (go_simp
               try go_bits
               rfl)
            simp only [Act.put, List.setIfInBounds_toArray, List.set_cons_zero, List.set_cons_succ])
          refine free_nil ?_
          repeat (first
            | (refine late_val ?_ rfl (fun w1 hS => ?_) ?_
               rotate_left
               · (have c0 : w1.cell? ⟨w.heap.size, 0, none⟩ = some (.slice A' r'.out.length c') := hS.cell 0; have c1 : w1.cell? ⟨w.heap.size, 1, none⟩ = some (.int .i64 r'.low) := hS.cell 1
                  go_simp
                  try go_bits
                  rfl)
               simp only [Act.put, List.setIfInBounds_toArray, List.set_cons_zero, List.set_cons_succ])
            | (refine late_off rfl ?_
               simp only [Act.put, List.setIfInBounds_toArray, List.set_cons_zero, List.set_cons_succ]))
          refine late_nil ?_
          refine ⟨fun vs F => ∃ v0 v3, vs = [v0, v3] ∧ F = (Rw 5 1 v3 r'.out.length (bytesV r'.out) * Rw 5 1 (.slice A' r'.out.length c') r'.out.length (bytesV r'.out)), fun vs F => ∃ v8, vs = [v8] ∧ F = Rw 5 1 v8 [r'.low / 16777216].length (bytesV [r'.low / 16777216]), ?_, ?_, ?_⟩
          · simp only [opsOf, List.filterMap_cons, List.filterMap_nil, List.getElem?_toArray, List.getElem?_cons_succ, List.getElem?_cons_zero]
            refine tw_run (fun v F => F = (Rw 5 1 v ([] : List Int).length (bytesV []) * Rw 5 1 (.slice A' r'.out.length c') r'.out.length (bytesV r'.out))) rfl (fun R1 _ w1 hB1 hS => ⟨.slice (some ⟨w1.heap.size, 0, none⟩) 0 0, _, w1.alloc (.cells #[] 5), by go_simp, ⟨inferInstance, rfl⟩, ((hS.new hB1 5 #[]).rw_of_bk rfl (by unfold maxLen; decide)).assoc', (Below.refl B w1).alloc hB1 _⟩) ?_
            rintro v0 F0 _ rfl
            simp only [Act.put, List.setIfInBounds_toArray, List.set_cons_zero, List.set_cons_succ]
            refine tw_run (fun v F => F = (Rw 5 1 v r'.out.length (bytesV r'.out) * Rw 5 1 (.slice A' r'.out.length c') r'.out.length (bytesV r'.out))) rfl (fun R1 _ w1 hB1 hS => ?_) ?_
            · obtain ⟨v3, w3, hrun, o3, b3⟩ := append_two hB1 hS.assoc (by have := Hn.out; show 0 + _ ≤ _; omega)
              rw [List.nil_append] at o3
              exact ⟨v3, _, w3, exec_append (.tmp 35) (.tmp 37) 38 rfl rfl rfl hrun, ⟨inferInstance, rfl⟩, o3.assoc', b3⟩
            · rintro v3 F3 _ rfl
              exact tw_nil ⟨v0, v3, rfl, rfl⟩
          · simp only [opsOf, List.filterMap_cons, List.filterMap_nil, List.getElem?_toArray, List.getElem?_cons_succ, List.getElem?_cons_zero]
            refine tw_run (fun v F => F = Rw 5 1 v [r'.low / 16777216].length (bytesV [r'.low / 16777216])) rfl (fun R1 _ w1 hB1 hS => ⟨.slice (some ⟨w1.heap.size, 0, none⟩) 1 1, _, w1.alloc (.cells #[.int .u8 (r'.low / 16777216)] 5), by go_simp, ⟨inferInstance, rfl⟩, (hS.right.new hB1 5 #[.int .u8 (r'.low / 16777216)]).rw_of_bk rfl (by unfold maxLen; decide), (Below.refl B w1).alloc hB1 _⟩) ?_
            rintro v8 F8 _ rfl
            exact tw_nil ⟨v8, rfl, rfl⟩
          · rintro vs1 F1 vs2 F2 w4 ⟨v0, v3, rfl, rfl⟩ ⟨v8, rfl, rfl⟩ o4 b4
            simp only [opsOf, putAll, Act.put, List.filterMap_cons, List.filterMap_nil, List.getElem?_toArray, List.getElem?_cons_succ, List.getElem?_cons_zero, List.setIfInBounds_toArray, List.set_cons_zero, List.set_cons_succ]
            have B4 := Nat.le_trans Bw b4.size
            have o4 : Own B (Rw 5 1 v3 r'.out.length (bytesV r'.out) * (Rw 5 1 v8 [r'.low / 16777216].length (bytesV [r'.low / 16777216]) * (Bk w.heap.size 45 (xCells (.slice A' r'.out.length c') r') * (Bk (w.heap.size + 1) 45 #[.slice none 0 0, .int .i64 0, .int .i64 0] * R)))) w4 :=
              (o4.cast (show _ = Rw 5 1 (.slice A' r'.out.length c') r'.out.length (bytesV r'.out) * (Rw 5 1 v3 r'.out.length (bytesV r'.out) * (Rw 5 1 v8 [r'.low / 16777216].length (bytesV [r'.low / 16777216]) * (Bk w.heap.size 45 (xCells (.slice A' r'.out.length c') r') * (Bk (w.heap.size + 1) 45 #[.slice none 0 0, .int .i64 0, .int .i64 0] * R)))) by ac_rfl)).right
            obtain ⟨v9, w5, hrun, o5, b5⟩ := append_two B4 o4 (by have := Hn.out; show _ + 1 ≤ _; omega)
            have B5 := Nat.le_trans B4 b5.size
            obtain ⟨A9, c9, rfl⟩ : ∃ A c, v9 = .slice A (r'.out.length + 1) c := by obtain ⟨A, c, h⟩ := o5.row_n; exact ⟨A, c, by rw [h]; simp⟩
            refine wpList_append_run rfl (.tmp 38) (.tmp 43) 38 rfl rfl rfl hrun ?_
            simp only [Act.put, List.setIfInBounds_toArray, List.set_cons_zero, List.set_cons_succ]
            clear hrun c0 c1 c2
            have o6 : Own B (Bk w.heap.size 45 (xCells (.slice A' r'.out.length c') r') * (Bk (w.heap.size + 1) 45 #[.slice none 0 0, .int .i64 0, .int .i64 0] * (Rw 5 1 (.slice A9 (r'.out.length + 1) c9) (r'.out ++ [r'.low / 16777216]).length (bytesV (r'.out ++ [r'.low / 16777216])) * R))) w5 :=
              (o5.cast (show _ = Rw 5 1 v8 [r'.low / 16777216].length (bytesV [r'.low / 16777216]) * (Bk w.heap.size 45 (xCells (.slice A' r'.out.length c') r') * (Bk (w.heap.size + 1) 45 #[.slice none 0 0, .int .i64 0, .int .i64 0] * (Rw 5 1 (.slice A9 (r'.out.length + 1) c9) (r'.out ++ [r'.low / 16777216]).length (bytesV (r'.out ++ [r'.low / 16777216])) * R))) by ac_rfl)).right
            have c0 : w5.cell? ⟨w.heap.size, 0, none⟩ = some (.slice A' r'.out.length c') := o6.cell 0
            have c1 : w5.cell? ⟨w.heap.size, 1, none⟩ = some (.int .i64 r'.low) := o6.cell 1
            have c2 : w5.cell? ⟨w.heap.size, 2, none⟩ = some (.int .i64 r'.width) := o6.cell 2
            have z0 := o6.unfrozen 0
            have z1 := o6.unfrozen 1
            have z2 := o6.unfrozen 2
            have s0 := o6.set B5 0 (.slice A9 (r'.out.length + 1) c9)
            have s1 := s0.set (by simpa [World.setCell] using B5) 1 (.int .i64 (r'.low % 16777216 * 256))
            have s2 := s1.set (by simpa [World.setCell] using B5) 2 (.int .i64 (r'.width * 256))
            have d1 : (w5.setCell ⟨w.heap.size, 0, none⟩ (.slice A9 (r'.out.length + 1) c9)).cell? ⟨w.heap.size, 1, none⟩ = some (.int .i64 r'.low) := s0.cell 1
            have d2 : ((w5.setCell ⟨w.heap.size, 0, none⟩ (.slice A9 (r'.out.length + 1) c9)).setCell ⟨w.heap.size, 1, none⟩ (.int .i64 (r'.low % 16777216 * 256))).cell? ⟨w.heap.size, 2, none⟩ = some (.int .i64 r'.width) := s1.cell 2
            have t2 := (((b4.trans b5).trans (o6.below_set 0 (.slice A9 (r'.out.length + 1) c9))).trans (s0.below_set 1 (.int .i64 (r'.low % 16777216 * 256)))).trans (s1.below_set 2 (.int .i64 (r'.width * 256)))
            go_wp2
            go_roundg 0
            case measure => omega
            case rel =>
              have e9 : rnorm r' = ⟨r'.out ++ [r'.low / 16777216], r'.low % 16777216 * 256, r'.width * 256⟩ := by unfold rnorm; rw [if_pos hlt]
              refine ⟨.slice A9 (r'.out.length + 1) c9, rnorm r', ?_, hbb.trans t2, Lib.hid (.inr ⟨rfl, by rw [Hr'.out]; rfl, by rw [e9]; show 16777216 ≤ r'.width * 256; omega⟩)⟩
              rw [e9]
              exact s2
        · have hfin : r' = rput ⟨out, low, width⟩ bound bit := by
            rcases hk.out with ⟨_, h⟩ | ⟨_, h, _⟩
            · unfold rput rnorm; rw [← h, if_neg hlt]
            · exact h
          have q0 : wr.cell? ⟨w.heap.size + 1, 0, none⟩ = some (.slice none 0 0) := oY.cell 0
          have q1 : wr.cell? ⟨w.heap.size + 1, 1, none⟩ = some (.int .i64 0) := oY.cell 1
          have q2 : wr.cell? ⟨w.heap.size + 1, 2, none⟩ = some (.int .i64 0) := oY.cell 2
          have y0 := oY.unfrozen 0
          have y1 := oY.unfrozen 1
          have y2 := oY.unfrozen 2
          have s0 := oY.set Bw 0 (.slice A' r'.out.length c')
          have s1 := s0.set (by simpa [World.setCell] using Bw) 1 (.int .i64 r'.low)
          have s2 := s1.set (by simpa [World.setCell] using Bw) 2 (.int .i64 r'.width)
          have t2 := ((oY.below_set 0 (.slice A' r'.out.length c')).trans (s0.below_set 1 (.int .i64 r'.low))).trans (s1.below_set 2 (.int .i64 r'.width))
          have Hfin := Lib.hid hfin
          clear hfin hk
          go_wp2
          refine bodyPost_ret (results_cell_row rfl _ _ (w.heap.size + 1) 45 #[.slice A' r'.out.length c', .int .i64 r'.low, .int .i64 r'.width] (0, 0) _ rfl s2.bk.1 Try.underlying45 rfl (by kernel_rfl)) rfl ?_
          rw [← Hfin.out]
          exact ⟨.slice A' r'.out.length c', rfl, (s2.cast (show _ = Bk _ _ _ * (Bk _ _ _ * (Rw _ _ _ _ _ * R)) by ac_rfl)).right.right, hbb.trans t2⟩
end Go.Proofs.Ytnoofgcjhoiboaa
