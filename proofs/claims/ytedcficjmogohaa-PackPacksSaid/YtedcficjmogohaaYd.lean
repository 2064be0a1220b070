/- Texts of one proof, merged: XP1 XP2 XSa XE0 XFoc XOb XRa XK0. -/
import Derived.Test.YtedcficjmogohaaYc
import Derived.Lib.Hide
import Derived.Laws.OwnMore
import Derived.Laws.Rows
import Derived.KernelRfl
import Derived.BigQuiet
import Derived.RowKit
import Derived.Deep.LoopGhost
import Derived.Laws.ShiftsVar
import Derived.WalkSpells
import Derived.Lib.BufferMore
import Derived.Below
/- The walks over the writer that carries at once. -/
namespace Go.Proofs.Ytedcficjmogohaa
set_option linter.unusedVariables false
set_option linter.unusedSimpArgs false
set_option maxRecDepth 100000
open Go.RowKit

def refV (v : Value) (r : RW) : Value := .agg #[v, .int .i64 r.low, .int .i64 r.width]

theorem refbegin_any (B : Nat) (R : HP) [Loc B R] (w : World) (hB : B ≤ w.heap.size) (hO : Own B R w) :
    Calls Try.prog 36 #[] w (Ret B w (refV (.slice none 0 0) ⟨[], 0, 4294967295⟩) R) := by
  go_enter Try.func36, Try.ntmps36
  go_wp2
  refine bodyPost_ret (results_cell_row rfl _ _ w.heap.size 66 #[.slice none 0 0, .int .i64 0, .int .i64 4294967295] (0, 0) _ rfl (heap_alloc_new w _) Try.underlying66 rfl (by kernel_rfl)) rfl ?_
  exact ⟨rfl, hO.alloc_keep hB _, (Below.refl B w).alloc hB _⟩

set_option maxHeartbeats 800000 in
theorem carried_any (v : Value) (l : List Int) (hb : bytesOk l) (hl : l.length ≤ 1099511627776) (B : Nat) (R : HP) [Loc B R] (w : World) (hB : B ≤ w.heap.size) (hO : Own B (Rw 5 1 v l.length (bytesV l) * R) w) :
    Calls Try.prog 75 #[v] w fun e w' => ∃ v', Ret B w v' (Rw 5 1 v' (carryL l).length (bytesV (carryL l)) * R) e w' := by
  have o1 : Own B (Rw 5 1 (.slice (some ⟨w.heap.size, 0, none⟩) 0 0) ([] : List Int).length (bytesV []) * (Rw 5 1 v l.length (bytesV l) * R)) (w.alloc (.cells #[] 5)) := (hO.new hB 5 #[]).rw_of_bk rfl (by unfold maxLen; decide)
  have B1 : B ≤ (w.alloc (.cells #[] 5)).heap.size := by simp; omega
  have b1 := (Below.refl B w).alloc hB (.cells #[] 5)
  obtain ⟨v2, w2, hrun, o2, b2⟩ := append_two B1 o1 (by show 0 + l.length ≤ _; omega)
  have B2 : B ≤ w2.heap.size := Nat.le_trans B1 b2.size
  rw [List.nil_append] at o2
  have o3 := (o2.cast (sep_left_comm _ _ _)).drop
  obtain ⟨A2, c2, rfl⟩ := o3.row_n
  clear o1 o2 hO
  go_enter Try.func75, Try.ntmps75
  go_wp2_with (at_builtin; refine wpList_append_run rfl (.tmp 5) (.tmp 6) 22 rfl rfl rfl hrun ?_)
  clear hrun
  have Hb := Lib.hid hb
  have Hl := Lib.hid hl
  clear hb hl
  have b2 := b1.trans b2
  clear b1
  go_loopg [4] l.length (fun k i wr => i = .int .i64 ((k : Int) - 1) ∧ ∃ (l1 : List Int) (m : Nat), l1.length = k ∧ Hid (l = l1 ++ List.replicate m 255) ∧ Own B (Rw 5 1 (.slice A2 l.length c2) l.length (bytesV (l1 ++ List.replicate m 0)) * R) wr ∧ Below B w wr)
  case atStart => exact ⟨rfl, l, 0, rfl, Lib.hid (by simp), by simpa using o3, b2⟩
  case round =>
    obtain ⟨rfl, l1, m, hk, hle, ho, hbb⟩ := hrel
    have Bw : B ≤ wr.heap.size := Nat.le_trans hB hbb.size
    by_cases hk0 : gk = 0
    · subst hk0
      obtain rfl : l1 = [] := List.eq_nil_of_length_eq_zero hk
      go_wp2
      go_ret
      have e1 : carryL l = List.replicate m 0 := by rw [hle.out, List.nil_append, carryL_all]
      have e2 : l.length = m := by rw [hle.out]; simp
      refine ⟨.slice A2 l.length c2, rfl, ?_, hbb⟩
      rw [e1, List.length_replicate]
      rw [e2, List.nil_append] at ho
      rw [e2]
      exact ho
    · obtain ⟨j, rfl⟩ : ∃ j, gk = j + 1 := ⟨gk - 1, by omega⟩
      obtain ⟨l2, c, rfl⟩ : ∃ l2 c, l1 = l2 ++ [c] := by
        rcases List.eq_nil_or_concat l1 with rfl | ⟨l2, c, h⟩
        · simp at hk
        · exact ⟨l2, c, by simpa using h⟩
      have hk2 : l2.length = j := by simpa using hk
      have hlen : l.length = j + 1 + m := by rw [hle.out]; simp; omega
      obtain ⟨c0, c1⟩ := Hb.out c (by rw [hle.out]; simp)
      obtain ⟨g, rfl⟩ : ∃ g, A2 = some ⟨g, 0, none⟩ := by
        rcases ho.row.2 with ⟨h, hn⟩ | ⟨g, cap, cur, h, _⟩
        · omega
        · injection h with h; exact ⟨g, h⟩
      have hcell : wr.cell? ⟨g, j, none⟩ = some (.int .u8 c) := by
        rw [ho.row.cellAt j (by omega)]
        simp [bytesV, hk2, List.getElem?_append]
      have hz := ho.row.frozenAt j
      have hst := fun u => ho.row_set Bw j u
      have hnew : ∀ u, (wr.setCell ⟨g, j, none⟩ u).cell? ⟨g, j, none⟩ = some u := fun u => by
        rw [(hst u).1.row.cellAt j (by omega)]
        simp [bytesV, hk2]
      have hbody : ∀ x : Int, (bytesV (l2 ++ [c] ++ List.replicate m 0)).set j (.int .u8 x) = bytesV (l2 ++ [x] ++ List.replicate m 0) := fun x => by
        simp [bytesV, List.set_append, hk2]
      have e1 : ((j + 1 : Nat) : Int) - 1 = (j : Int) := by omega
      have i0 : (0 : Int) ≤ (j : Int) := by omega
      have i1 : (j : Int) < (l.length : Int) := by omega
      have i2 : (l.length : Int) ≤ 1099511627776 := by have := Hl.out; omega
      rw [e1]
      clear e1
      by_cases h255 : c = 255
      · subst h255
        have n0 := hnew (.int .u8 0)
        clear hnew
        go_wp2
        go_roundg j
        case measure => omega
        case rel =>
          refine ⟨rfl, l2, m + 1, hk2, Lib.hid (by rw [hle.out, List.replicate_succ]; simp), ?_, hbb.trans (hst _).2⟩
          have := (hst (.int .u8 0)).1
          rw [hbody 0] at this
          rw [List.replicate_succ]
          simpa using this
      · have c2' : c < 255 := by omega
        have hne : ¬ c + 1 = 0 := by omega
        have n0 := hnew (.int .u8 (c + 1))
        clear hnew
        go_wp2
        go_ret
        have e1 : carryL l = l2 ++ [c + 1] ++ List.replicate m 0 := by rw [hle.out, carryL_end _ _ h255]
        have e2 : (l2 ++ [c + 1] ++ List.replicate m 0).length = l.length := by simp; omega
        refine ⟨.slice (some ⟨g, 0, none⟩) l.length c2, rfl, ?_, hbb.trans (hst _).2⟩
        rw [e1, e2]
        have := (hst (.int .u8 (c + 1))).1
        rw [hbody] at this
        exact this

/-- What stands of the writer that carries at once. -/
structure RW.ok (r : RW) (room : Int) : Prop where
  bytes : bytesOk r.out
  len : (r.out.length : Int) + room ≤ 1099511627776
  low0 : 0 ≤ r.low
  low1 : r.low < 4294967296
  width0 : 0 ≤ r.width
  width1 : r.width < 4294967296
  sum : r.low + r.width < 8589934592

theorem carryL_len (l : List Int) : (carryL l).length = l.length := by
  have h : ∀ l : List Int, (carryR l).length = l.length := by
    intro l
    induction l with
    | nil => rfl
    | cons c l ih => unfold carryR; split <;> simp [ih]
  simp [carryL, h]
theorem carryL_bytes {l : List Int} (hb : bytesOk l) : bytesOk (carryL l) := by
  have h : ∀ l : List Int, bytesOk l → bytesOk (carryR l) := by
    intro l
    induction l with
    | nil => exact fun h => h
    | cons c l ih =>
      intro h
      have hc := h c List.mem_cons_self
      have hl : bytesOk l := fun x hx => h x (List.mem_cons_of_mem _ hx)
      unfold carryR
      split
      · intro x hx
        rcases List.mem_cons.1 hx with rfl | hx
        · omega
        · exact ih hl x hx
      · intro x hx
        rcases List.mem_cons.1 hx with rfl | hx
        · omega
        · exact hl x hx
  intro x hx
  exact h l.reverse (fun y hy => hb y (List.mem_reverse.1 hy)) x (List.mem_reverse.1 hx)
theorem rput1_facts {r : RW} {bound : Int} (bit : Int) {room : Int} (ok : r.ok (room + 1)) (b0 : 65536 ≤ bound) (b1 : bound + 65536 ≤ r.width) :
    (rcarry (rput1 r bound bit)).ok (room + 1) ∧ 65536 ≤ (rcarry (rput1 r bound bit)).width := by
  obtain ⟨out, low, width⟩ := r
  obtain ⟨ob, ol, l0, l1, w0, w1, sm⟩ := ok
  simp only at ob ol l0 l1 w0 w1 sm b1
  by_cases hbit : bit = 0
  · have e : rcarry (rput1 ⟨out, low, width⟩ bound bit) = ⟨out, low, bound⟩ := by unfold rcarry rput1; rw [if_pos hbit, if_neg (by show ¬ 4294967296 ≤ low; omega)]
    rw [e]
    exact ⟨⟨ob, ol, l0, l1, by show 0 ≤ bound; omega, by show bound < _; omega, by show low + bound < _; omega⟩, b0⟩
  · by_cases hcar : 4294967296 ≤ low + bound
    · have e : rcarry (rput1 ⟨out, low, width⟩ bound bit) = ⟨carryL out, low + bound - 4294967296, width - bound⟩ := by unfold rcarry rput1; rw [if_neg hbit, if_pos (by show 4294967296 ≤ low + bound; omega)]
      rw [e]
      exact ⟨⟨carryL_bytes ob, by rw [carryL_len]; exact ol, by show 0 ≤ low + bound - 4294967296; omega, by show low + bound - 4294967296 < _; omega, by show 0 ≤ width - bound; omega, by show width - bound < _; omega, by show low + bound - 4294967296 + (width - bound) < _; omega⟩, by show 65536 ≤ width - bound; omega⟩
    · have e : rcarry (rput1 ⟨out, low, width⟩ bound bit) = ⟨out, low + bound, width - bound⟩ := by unfold rcarry rput1; rw [if_neg hbit, if_neg (by show ¬ 4294967296 ≤ low + bound; omega)]
      rw [e]
      exact ⟨⟨ob, ol, by show 0 ≤ low + bound; omega, by show low + bound < _; omega, by show 0 ≤ width - bound; omega, by show width - bound < _; omega, by show low + bound + (width - bound) < _; omega⟩, by show 65536 ≤ width - bound; omega⟩
theorem rput_ok {r : RW} {bound : Int} (bit : Int) {room : Int} (ok : r.ok (room + 1)) (b0 : 65536 ≤ bound) (b1 : bound + 65536 ≤ r.width) : (rput r bound bit).ok room ∧ 16777216 ≤ (rput r bound bit).width := by
  obtain ⟨⟨ob, ol, l0, l1, w0, w1, sm⟩, hw⟩ := rput1_facts bit ok b0 b1
  unfold rput rnorm
  split
  · refine ⟨⟨?_, by simp; omega, by show 0 ≤ _ % 16777216 * 256; omega, by show _ % 16777216 * 256 < _; omega, by show 0 ≤ _ * 256; omega, by show _ * 256 < _; omega, by show _ % 16777216 * 256 + _ * 256 < _; omega⟩, by show 16777216 ≤ _ * 256; omega⟩
    intro c hc
    rcases List.mem_append.1 hc with h | h
    · exact ob c h
    · simp at h; omega
  · exact ⟨⟨ob, by omega, l0, l1, w0, w1, sm⟩, by omega⟩

def xCells (v : Value) (r : RW) : Array Value := #[v, .int .i64 r.low, .int .i64 r.width]

set_option maxHeartbeats 1600000 in
theorem refput_any (v : Value) (r : RW) (bound bit : Int) (room : Int) (hr : 0 ≤ room) (ok : r.ok (room + 1)) (b0 : 65536 ≤ bound) (b1 : bound + 65536 ≤ r.width) (B : Nat) (R : HP) [Loc B R] (w : World) (hB : B ≤ w.heap.size) (hO : Own B (Rw 5 1 v r.out.length (bytesV r.out) * R) w) :
    Calls Try.prog 63 #[refV v r, .int .i64 bound, .int .i64 bit] w fun e w' => ∃ v', Ret B w (refV v' (rput r bound bit)) (Rw 5 1 v' (rput r bound bit).out.length (bytesV (rput r bound bit).out) * R) e w' := by
  obtain ⟨out, low, width⟩ := r
  obtain ⟨ob, ol, l0, l1, w0, w1, sm⟩ := ok
  simp only at ob ol l0 l1 w0 w1 sm b1
  have hf := rput1_facts (r := ⟨out, low, width⟩) bit ⟨ob, ol, l0, l1, w0, w1, sm⟩ b0 b1
  have Hp : Hid (65536 ≤ (rcarry (rput1 ⟨out, low, width⟩ bound bit)).width ∧ (rcarry (rput1 ⟨out, low, width⟩ bound bit)).width < 4294967296 ∧ 0 ≤ (rcarry (rput1 ⟨out, low, width⟩ bound bit)).low ∧ (rcarry (rput1 ⟨out, low, width⟩ bound bit)).low < 4294967296 ∧ ((rcarry (rput1 ⟨out, low, width⟩ bound bit)).out.length : Int) + (room + 1) ≤ 1099511627776) := Lib.hid ⟨hf.2, hf.1.width1, hf.1.low0, hf.1.low1, hf.1.len⟩
  clear hf
  have Hob := Lib.hid ob
  have Hol := Lib.hid ol
  have hW : ∀ lo wi : Int, Own B (Bk w.heap.size 66 #[v, .int .i64 lo, .int .i64 wi] * (Bk (w.heap.size + 1) 66 #[.slice none 0 0, .int .i64 0, .int .i64 0] * (Rw 5 1 v out.length (bytesV out) * R)))
      ((w.alloc (.cells #[v, .int .i64 lo, .int .i64 wi] 66)).alloc (.cells #[.slice none 0 0, .int .i64 0, .int .i64 0] 66)) ∧
      Below B w ((w.alloc (.cells #[v, .int .i64 lo, .int .i64 wi] 66)).alloc (.cells #[.slice none 0 0, .int .i64 0, .int .i64 0] 66)) := by
    intro lo wi
    have o1 := hO.new hB 66 #[v, .int .i64 lo, .int .i64 wi]
    have b1' := (Below.refl B w).alloc hB (.cells #[v, .int .i64 lo, .int .i64 wi] 66)
    have B1 : B ≤ (w.alloc (.cells #[v, .int .i64 lo, .int .i64 wi] 66)).heap.size := by simp; omega
    have o2 := o1.new B1 66 #[.slice none 0 0, .int .i64 0, .int .i64 0]
    rw [show (w.alloc (.cells #[v, .int .i64 lo, .int .i64 wi] 66)).heap.size = w.heap.size + 1 by simp] at o2
    exact ⟨o2.cast (sep_left_comm _ _ _), b1'.alloc B1 _⟩
  have HW := Lib.hid hW
  clear hW hO
  show Calls _ _ #[.agg #[v, .int .i64 low, .int .i64 width], .int .i64 bound, .int .i64 bit] _ _
  go_enter Try.func63, Try.ntmps63
  by_cases hbit : bit = 0
  · subst hbit
    have He1 : Hid ((⟨out, low, bound⟩ : RW) = rcarry (rput1 ⟨out, low, width⟩ bound 0)) := Lib.hid (by unfold rcarry rput1; rw [if_pos rfl, if_neg (by show ¬ 4294967296 ≤ low; omega)])
    have o4 := (HW.out low bound).1
    have b4 := (HW.out low bound).2
    go_wp2
    go_loopg [] 1 (fun k wr => ∃ (v' : Value) (r' : RW), Own B (Bk w.heap.size 66 (xCells v' r') * (Bk (w.heap.size + 1) 66 #[.slice none 0 0, .int .i64 0, .int .i64 0] * (Rw 5 1 v' r'.out.length (bytesV r'.out) * R))) wr ∧ Below B w wr ∧ Hid ((k = 1 ∧ r' = rcarry (rput1 ⟨out, low, width⟩ bound 0)) ∨ (k = 0 ∧ r' = rput ⟨out, low, width⟩ bound 0 ∧ 16777216 ≤ r'.width)))
    case atStart => exact ⟨v, ⟨out, low, bound⟩, o4, b4, Lib.hid (.inl ⟨rfl, He1.out⟩)⟩
    case round =>
      obtain ⟨v', r', ho, hbb, hk⟩ := hrel
      have Bw : B ≤ wr.heap.size := Nat.le_trans hB hbb.size
      obtain ⟨A', c', rfl⟩ := (ho.cast (show _ = Rw _ _ v' _ _ * (Bk _ _ (xCells v' r') * (Bk _ _ _ * R)) by ac_rfl)).row_n
      have c0 : wr.cell? ⟨w.heap.size, 0, none⟩ = some (.slice A' r'.out.length c') := ho.cell 0
      have c1 : wr.cell? ⟨w.heap.size, 1, none⟩ = some (.int .i64 r'.low) := ho.cell 1
      have c2 : wr.cell? ⟨w.heap.size, 2, none⟩ = some (.int .i64 r'.width) := ho.cell 2
      have oY := ho.cast (sep_left_comm _ _ _)
      by_cases hlt : r'.width < 16777216
      · have hk2 : gk = 1 ∧ r' = rcarry (rput1 ⟨out, low, width⟩ bound 0) := by
          rcases hk.out with h | ⟨_, _, h⟩
          · exact h
          · omega
        obtain ⟨rfl, hr'⟩ := hk2
        obtain ⟨p0, p1, p2, p3, p4⟩ := Hp.out
        rw [← hr'] at p0 p1 p2 p3 p4
        have Hr' := Lib.hid hr'
        have Hn := Lib.hid p4
        clear hr' hk p4
        go_wp2
        refine wp_region_ltwo (B := B) [1, 4] [2, 5, 6, 7] [0, 3] [8] [9, 10, 11] (Rw 5 1 (.slice A' r'.out.length c') r'.out.length (bytesV r'.out)) Emp (Bk w.heap.size 66 (xCells (.slice A' r'.out.length c') r') * (Bk (w.heap.size + 1) 66 #[.slice none 0 0, .int .i64 0, .int .i64 0] * R)) mixed (by kernel_rfl) rfl (fun _ _ _ _ _ h => h) Bw ((ho.emp.cast (by ac_rfl)).drew Bw) ?_
        simp only [List.filterMap_cons, List.filterMap_nil, List.getElem?_toArray, List.getElem?_cons_succ, List.getElem?_cons_zero]
        repeat (
          refine free_val ?_ rfl (fun w1 => ?_) ?_
          rotate_left
          · (go_simp
             try go_bits
             rfl)
          simp only [Act.put, List.setIfInBounds_toArray, List.set_cons_zero, List.set_cons_succ])
        refine free_nil ?_
        repeat (first
          | (refine late_val ?_ rfl (fun w1 hS => ?_) ?_
             rotate_left
             · (have c0 : w1.cell? ⟨w.heap.size, 0, none⟩ = some (.slice A' r'.out.length c') := hS.cell 0; have c1 : w1.cell? ⟨w.heap.size, 1, none⟩ = some (.int .i64 r'.low) := hS.cell 1
                go_simp
                try go_bits
                rfl)
             simp only [Act.put, List.setIfInBounds_toArray, List.set_cons_zero, List.set_cons_succ])
          | (refine late_off rfl ?_
             simp only [Act.put, List.setIfInBounds_toArray, List.set_cons_zero, List.set_cons_succ]))
        refine late_nil ?_
        refine ⟨fun vs F => ∃ v0 v3, vs = [v0, v3] ∧ F = (Rw 5 1 v3 r'.out.length (bytesV r'.out) * Rw 5 1 (.slice A' r'.out.length c') r'.out.length (bytesV r'.out)), fun vs F => ∃ v8, vs = [v8] ∧ F = Rw 5 1 v8 [r'.low / 16777216].length (bytesV [r'.low / 16777216]), ?_, ?_, ?_⟩
        · simp only [opsOf, List.filterMap_cons, List.filterMap_nil, List.getElem?_toArray, List.getElem?_cons_succ, List.getElem?_cons_zero]
          refine tw_run (fun v F => F = (Rw 5 1 v ([] : List Int).length (bytesV []) * Rw 5 1 (.slice A' r'.out.length c') r'.out.length (bytesV r'.out))) rfl (fun R1 _ w1 hB1 hS => ⟨.slice (some ⟨w1.heap.size, 0, none⟩) 0 0, _, w1.alloc (.cells #[] 5), by go_simp, ⟨inferInstance, rfl⟩, ((hS.new hB1 5 #[]).rw_of_bk rfl (by unfold maxLen; decide)).assoc', (Below.refl B w1).alloc hB1 _⟩) ?_
          rintro v0 F0 _ rfl
          simp only [Act.put, List.setIfInBounds_toArray, List.set_cons_zero, List.set_cons_succ]
          refine tw_run (fun v F => F = (Rw 5 1 v r'.out.length (bytesV r'.out) * Rw 5 1 (.slice A' r'.out.length c') r'.out.length (bytesV r'.out))) rfl (fun R1 _ w1 hB1 hS => ?_) ?_
          · obtain ⟨v3, w3, hrun, o3, b3⟩ := append_two hB1 hS.assoc (by have := Hn.out; show 0 + _ ≤ _; omega)
            rw [List.nil_append] at o3
            exact ⟨v3, _, w3, exec_append (.tmp 35) (.tmp 37) 22 rfl rfl rfl hrun, ⟨inferInstance, rfl⟩, o3.assoc', b3⟩
          · rintro v3 F3 _ rfl
            exact tw_nil ⟨v0, v3, rfl, rfl⟩
        · simp only [opsOf, List.filterMap_cons, List.filterMap_nil, List.getElem?_toArray, List.getElem?_cons_succ, List.getElem?_cons_zero]
          refine tw_run (fun v F => F = Rw 5 1 v [r'.low / 16777216].length (bytesV [r'.low / 16777216])) rfl (fun R1 _ w1 hB1 hS => ⟨.slice (some ⟨w1.heap.size, 0, none⟩) 1 1, _, w1.alloc (.cells #[.int .u8 (r'.low / 16777216)] 5), by go_simp, ⟨inferInstance, rfl⟩, (hS.right.new hB1 5 #[.int .u8 (r'.low / 16777216)]).rw_of_bk rfl (by unfold maxLen; decide), (Below.refl B w1).alloc hB1 _⟩) ?_
          rintro v8 F8 _ rfl
          exact tw_nil ⟨v8, rfl, rfl⟩
        · rintro vs1 F1 vs2 F2 w4 ⟨v0, v3, rfl, rfl⟩ ⟨v8, rfl, rfl⟩ o4 b4
          simp only [opsOf, putAll, Act.put, List.filterMap_cons, List.filterMap_nil, List.getElem?_toArray, List.getElem?_cons_succ, List.getElem?_cons_zero, List.setIfInBounds_toArray, List.set_cons_zero, List.set_cons_succ]
          have B4 := Nat.le_trans Bw b4.size
          have o4 : Own B (Rw 5 1 v3 r'.out.length (bytesV r'.out) * (Rw 5 1 v8 [r'.low / 16777216].length (bytesV [r'.low / 16777216]) * (Bk w.heap.size 66 (xCells (.slice A' r'.out.length c') r') * (Bk (w.heap.size + 1) 66 #[.slice none 0 0, .int .i64 0, .int .i64 0] * R)))) w4 :=
            (o4.cast (show _ = Rw 5 1 (.slice A' r'.out.length c') r'.out.length (bytesV r'.out) * (Rw 5 1 v3 r'.out.length (bytesV r'.out) * (Rw 5 1 v8 [r'.low / 16777216].length (bytesV [r'.low / 16777216]) * (Bk w.heap.size 66 (xCells (.slice A' r'.out.length c') r') * (Bk (w.heap.size + 1) 66 #[.slice none 0 0, .int .i64 0, .int .i64 0] * R)))) by ac_rfl)).right
          obtain ⟨v9, w5, hrun, o5, b5⟩ := append_two B4 o4 (by have := Hn.out; show _ + 1 ≤ _; omega)
          have B5 := Nat.le_trans B4 b5.size
          obtain ⟨A9, c9, rfl⟩ : ∃ A c, v9 = .slice A (r'.out.length + 1) c := by obtain ⟨A, c, h⟩ := o5.row_n; exact ⟨A, c, by rw [h]; simp⟩
          refine wpList_append_run rfl (.tmp 38) (.tmp 43) 22 rfl rfl rfl hrun ?_
          simp only [Act.put, List.setIfInBounds_toArray, List.set_cons_zero, List.set_cons_succ]
          clear hrun c0 c1 c2
          have o6 : Own B (Bk w.heap.size 66 (xCells (.slice A' r'.out.length c') r') * (Bk (w.heap.size + 1) 66 #[.slice none 0 0, .int .i64 0, .int .i64 0] * (Rw 5 1 (.slice A9 (r'.out.length + 1) c9) (r'.out ++ [r'.low / 16777216]).length (bytesV (r'.out ++ [r'.low / 16777216])) * R))) w5 :=
            (o5.cast (show _ = Rw 5 1 v8 [r'.low / 16777216].length (bytesV [r'.low / 16777216]) * (Bk w.heap.size 66 (xCells (.slice A' r'.out.length c') r') * (Bk (w.heap.size + 1) 66 #[.slice none 0 0, .int .i64 0, .int .i64 0] * (Rw 5 1 (.slice A9 (r'.out.length + 1) c9) (r'.out ++ [r'.low / 16777216]).length (bytesV (r'.out ++ [r'.low / 16777216])) * R))) by ac_rfl)).right
          have c0 : w5.cell? ⟨w.heap.size, 0, none⟩ = some (.slice A' r'.out.length c') := o6.cell 0
          have c1 : w5.cell? ⟨w.heap.size, 1, none⟩ = some (.int .i64 r'.low) := o6.cell 1
          have c2 : w5.cell? ⟨w.heap.size, 2, none⟩ = some (.int .i64 r'.width) := o6.cell 2
          have z0 := o6.unfrozen 0
          have z1 := o6.unfrozen 1
          have z2 := o6.unfrozen 2
          have s0 := o6.set B5 0 (.slice A9 (r'.out.length + 1) c9)
          have s1 := s0.set (by simpa [World.setCell] using B5) 1 (.int .i64 (r'.low % 16777216 * 256))
          have s2 := s1.set (by simpa [World.setCell] using B5) 2 (.int .i64 (r'.width * 256))
          have d1 : (w5.setCell ⟨w.heap.size, 0, none⟩ (.slice A9 (r'.out.length + 1) c9)).cell? ⟨w.heap.size, 1, none⟩ = some (.int .i64 r'.low) := s0.cell 1
          have d2 : ((w5.setCell ⟨w.heap.size, 0, none⟩ (.slice A9 (r'.out.length + 1) c9)).setCell ⟨w.heap.size, 1, none⟩ (.int .i64 (r'.low % 16777216 * 256))).cell? ⟨w.heap.size, 2, none⟩ = some (.int .i64 r'.width) := s1.cell 2
          have t2 := (((b4.trans b5).trans (o6.below_set 0 (.slice A9 (r'.out.length + 1) c9))).trans (s0.below_set 1 (.int .i64 (r'.low % 16777216 * 256)))).trans (s1.below_set 2 (.int .i64 (r'.width * 256)))
          go_wp2
          go_roundg 0
          case measure => omega
          case rel =>
            have e9 : rnorm r' = ⟨r'.out ++ [r'.low / 16777216], r'.low % 16777216 * 256, r'.width * 256⟩ := by unfold rnorm; rw [if_pos hlt]
            refine ⟨.slice A9 (r'.out.length + 1) c9, rnorm r', ?_, hbb.trans t2, Lib.hid (.inr ⟨rfl, by rw [Hr'.out]; rfl, by rw [e9]; show 16777216 ≤ r'.width * 256; omega⟩)⟩
            rw [e9]
            exact s2
      · have hfin : r' = rput ⟨out, low, width⟩ bound 0 := by
          rcases hk.out with ⟨_, h⟩ | ⟨_, h, _⟩
          · unfold rput rnorm; rw [← h, if_neg hlt]
          · exact h
        have q0 : wr.cell? ⟨w.heap.size + 1, 0, none⟩ = some (.slice none 0 0) := oY.cell 0
        have q1 : wr.cell? ⟨w.heap.size + 1, 1, none⟩ = some (.int .i64 0) := oY.cell 1
        have q2 : wr.cell? ⟨w.heap.size + 1, 2, none⟩ = some (.int .i64 0) := oY.cell 2
        have y0 := oY.unfrozen 0
        have y1 := oY.unfrozen 1
        have y2 := oY.unfrozen 2
        have s0 := oY.set Bw 0 (.slice A' r'.out.length c')
        have s1 := s0.set (by simpa [World.setCell] using Bw) 1 (.int .i64 r'.low)
        have s2 := s1.set (by simpa [World.setCell] using Bw) 2 (.int .i64 r'.width)
        have t2 := ((oY.below_set 0 (.slice A' r'.out.length c')).trans (s0.below_set 1 (.int .i64 r'.low))).trans (s1.below_set 2 (.int .i64 r'.width))
        have Hfin := Lib.hid hfin
        clear hfin hk
        go_wp2
        refine bodyPost_ret (results_cell_row rfl _ _ (w.heap.size + 1) 66 #[.slice A' r'.out.length c', .int .i64 r'.low, .int .i64 r'.width] (0, 0) _ rfl s2.bk.1 Try.underlying66 rfl (by kernel_rfl)) rfl ?_
        rw [← Hfin.out]
        exact ⟨.slice A' r'.out.length c', rfl, (s2.cast (show _ = Bk _ _ _ * (Bk _ _ _ * (Rw _ _ _ _ _ * R)) by ac_rfl)).right.right, hbb.trans t2⟩
  · have hbit' : (bit == 0) = false := by simpa using hbit
    by_cases hcar : 4294967296 ≤ low + bound
    · have hin : low + bound - 4294967296 < 4294967296 := by omega
      have He1 : Hid ((⟨carryL out, low + bound - 4294967296, width - bound⟩ : RW) = rcarry (rput1 ⟨out, low, width⟩ bound bit)) := Lib.hid (by unfold rcarry rput1; rw [if_neg hbit, if_pos (by show 4294967296 ≤ low + bound; omega)])
      have o3 := (HW.out (low + bound - 4294967296) (width - bound)).1
      have b3 := (HW.out (low + bound - 4294967296) (width - bound)).2
      have B3 := Nat.le_trans hB b3.size
      go_wp2_with fail
      refine (carried_any v out Hob.out (by have := Hol.out; omega) B _ _ B3 (o3.cast (show _ = Rw _ _ v _ _ * (Bk w.heap.size _ _ * (Bk (w.heap.size + 1) _ _ * R)) by ac_rfl))).mono ?_
      rintro e w4 ⟨v4, rfl, o4, b4⟩
      obtain ⟨A4, c4, rfl⟩ := o4.row_n
      have B4 := Nat.le_trans B3 b4.size
      have o4 := o4.cast (show _ = Bk w.heap.size _ _ * (Bk (w.heap.size + 1) _ _ * (Rw _ _ (.slice A4 (carryL out).length c4) _ _ * R)) by ac_rfl)
      have z0 := o4.unfrozen 0
      have c0 : w4.cell? ⟨w.heap.size, 0, none⟩ = some v := o4.cell 0
      have o5 := o4.set B4 0 (.slice A4 (carryL out).length c4)
      have b5 := (b3.trans b4).trans (o4.below_set 0 (.slice A4 (carryL out).length c4))
      clear o3 b3 B3
      go_wp2
      clear c0 z0
      go_loopg [] 1 (fun k wr => ∃ (v' : Value) (r' : RW), Own B (Bk w.heap.size 66 (xCells v' r') * (Bk (w.heap.size + 1) 66 #[.slice none 0 0, .int .i64 0, .int .i64 0] * (Rw 5 1 v' r'.out.length (bytesV r'.out) * R))) wr ∧ Below B w wr ∧ Hid ((k = 1 ∧ r' = rcarry (rput1 ⟨out, low, width⟩ bound bit)) ∨ (k = 0 ∧ r' = rput ⟨out, low, width⟩ bound bit ∧ 16777216 ≤ r'.width)))
      case atStart => exact ⟨.slice A4 (carryL out).length c4, ⟨carryL out, bound + low - 4294967296, width - bound⟩, o5, b5, Lib.hid (.inl ⟨rfl, by rw [← He1.out, Int.add_comm bound low]⟩)⟩
      case round =>
        obtain ⟨v', r', ho, hbb, hk⟩ := hrel
        have Bw : B ≤ wr.heap.size := Nat.le_trans hB hbb.size
        obtain ⟨A', c', rfl⟩ := (ho.cast (show _ = Rw _ _ v' _ _ * (Bk _ _ (xCells v' r') * (Bk _ _ _ * R)) by ac_rfl)).row_n
        have c0 : wr.cell? ⟨w.heap.size, 0, none⟩ = some (.slice A' r'.out.length c') := ho.cell 0
        have c1 : wr.cell? ⟨w.heap.size, 1, none⟩ = some (.int .i64 r'.low) := ho.cell 1
        have c2 : wr.cell? ⟨w.heap.size, 2, none⟩ = some (.int .i64 r'.width) := ho.cell 2
        have oY := ho.cast (sep_left_comm _ _ _)
        by_cases hlt : r'.width < 16777216
        · have hk2 : gk = 1 ∧ r' = rcarry (rput1 ⟨out, low, width⟩ bound bit) := by
            rcases hk.out with h | ⟨_, _, h⟩
            · exact h
            · omega
          obtain ⟨rfl, hr'⟩ := hk2
          obtain ⟨p0, p1, p2, p3, p4⟩ := Hp.out
          rw [← hr'] at p0 p1 p2 p3 p4
          have Hr' := Lib.hid hr'
          have Hn := Lib.hid p4
          clear hr' hk p4
          go_wp2
          refine wp_region_ltwo (B := B) [1, 4] [2, 5, 6, 7] [0, 3] [8] [9, 10, 11] (Rw 5 1 (.slice A' r'.out.length c') r'.out.length (bytesV r'.out)) Emp (Bk w.heap.size 66 (xCells (.slice A' r'.out.length c') r') * (Bk (w.heap.size + 1) 66 #[.slice none 0 0, .int .i64 0, .int .i64 0] * R)) mixed (by kernel_rfl) rfl (fun _ _ _ _ _ h => h) Bw ((ho.emp.cast (by ac_rfl)).drew Bw) ?_
          simp only [List.filterMap_cons, List.filterMap_nil, List.getElem?_toArray, List.getElem?_cons_succ, List.getElem?_cons_zero]
          repeat (
            refine free_val ?_ rfl (fun w1 => ?_) ?_
            rotate_left
            · (go_simp
               try go_bits
               rfl)
            simp only [Act.put, List.setIfInBounds_toArray, List.set_cons_zero, List.set_cons_succ])
          refine free_nil ?_
          repeat (first
            | (refine late_val ?_ rfl (fun w1 hS => ?_) ?_
               rotate_left
               · (have c0 : w1.cell? ⟨w.heap.size, 0, none⟩ = some (.slice A' r'.out.length c') := hS.cell 0; have c1 : w1.cell? ⟨w.heap.size, 1, none⟩ = some (.int .i64 r'.low) := hS.cell 1
                  go_simp
                  try go_bits
                  rfl)
               simp only [Act.put, List.setIfInBounds_toArray, List.set_cons_zero, List.set_cons_succ])
            | (refine late_off rfl ?_
               simp only [Act.put, List.setIfInBounds_toArray, List.set_cons_zero, List.set_cons_succ]))
          refine late_nil ?_
          refine ⟨fun vs F => ∃ v0 v3, vs = [v0, v3] ∧ F = (Rw 5 1 v3 r'.out.length (bytesV r'.out) * Rw 5 1 (.slice A' r'.out.length c') r'.out.length (bytesV r'.out)), fun vs F => ∃ v8, vs = [v8] ∧ F = Rw 5 1 v8 [r'.low / 16777216].length (bytesV [r'.low / 16777216]), ?_, ?_, ?_⟩
          · simp only [opsOf, List.filterMap_cons, List.filterMap_nil, List.getElem?_toArray, List.getElem?_cons_succ, List.getElem?_cons_zero]
            refine tw_run (fun v F => F = (Rw 5 1 v ([] : List Int).length (bytesV []) * Rw 5 1 (.slice A' r'.out.length c') r'.out.length (bytesV r'.out))) rfl (fun R1 _ w1 hB1 hS => ⟨.slice (some ⟨w1.heap.size, 0, none⟩) 0 0, _, w1.alloc (.cells #[] 5), by go_simp, ⟨inferInstance, rfl⟩, ((hS.new hB1 5 #[]).rw_of_bk rfl (by unfold maxLen; decide)).assoc', (Below.refl B w1).alloc hB1 _⟩) ?_
            rintro v0 F0 _ rfl
            simp only [Act.put, List.setIfInBounds_toArray, List.set_cons_zero, List.set_cons_succ]
            refine tw_run (fun v F => F = (Rw 5 1 v r'.out.length (bytesV r'.out) * Rw 5 1 (.slice A' r'.out.length c') r'.out.length (bytesV r'.out))) rfl (fun R1 _ w1 hB1 hS => ?_) ?_
            · obtain ⟨v3, w3, hrun, o3, b3⟩ := append_two hB1 hS.assoc (by have := Hn.out; show 0 + _ ≤ _; omega)
              rw [List.nil_append] at o3
              exact ⟨v3, _, w3, exec_append (.tmp 35) (.tmp 37) 22 rfl rfl rfl hrun, ⟨inferInstance, rfl⟩, o3.assoc', b3⟩
            · rintro v3 F3 _ rfl
              exact tw_nil ⟨v0, v3, rfl, rfl⟩
          · simp only [opsOf, List.filterMap_cons, List.filterMap_nil, List.getElem?_toArray, List.getElem?_cons_succ, List.getElem?_cons_zero]
            refine tw_run (fun v F => F = Rw 5 1 v [r'.low / 16777216].length (bytesV [r'.low / 16777216])) rfl (fun R1 _ w1 hB1 hS => ⟨.slice (some ⟨w1.heap.size, 0, none⟩) 1 1, _, w1.alloc (.cells #[.int .u8 (r'.low / 16777216)] 5), by go_simp, ⟨inferInstance, rfl⟩, (hS.right.new hB1 5 #[.int .u8 (r'.low / 16777216)]).rw_of_bk rfl (by unfold maxLen; decide), (Below.refl B w1).alloc hB1 _⟩) ?_
            rintro v8 F8 _ rfl
            exact tw_nil ⟨v8, rfl, rfl⟩
          · rintro vs1 F1 vs2 F2 w4 ⟨v0, v3, rfl, rfl⟩ ⟨v8, rfl, rfl⟩ o4 b4
            simp only [opsOf, putAll, Act.put, List.filterMap_cons, List.filterMap_nil, List.getElem?_toArray, List.getElem?_cons_succ, List.getElem?_cons_zero, List.setIfInBounds_toArray, List.set_cons_zero, List.set_cons_succ]
            have B4 := Nat.le_trans Bw b4.size
            have o4 : Own B (Rw 5 1 v3 r'.out.length (bytesV r'.out) * (Rw 5 1 v8 [r'.low / 16777216].length (bytesV [r'.low / 16777216]) * (Bk w.heap.size 66 (xCells (.slice A' r'.out.length c') r') * (Bk (w.heap.size + 1) 66 #[.slice none 0 0, .int .i64 0, .int .i64 0] * R)))) w4 :=
              (o4.cast (show _ = Rw 5 1 (.slice A' r'.out.length c') r'.out.length (bytesV r'.out) * (Rw 5 1 v3 r'.out.length (bytesV r'.out) * (Rw 5 1 v8 [r'.low / 16777216].length (bytesV [r'.low / 16777216]) * (Bk w.heap.size 66 (xCells (.slice A' r'.out.length c') r') * (Bk (w.heap.size + 1) 66 #[.slice none 0 0, .int .i64 0, .int .i64 0] * R)))) by ac_rfl)).right
            obtain ⟨v9, w5, hrun, o5, b5⟩ := append_two B4 o4 (by have := Hn.out; show _ + 1 ≤ _; omega)
            have B5 := Nat.le_trans B4 b5.size
            obtain ⟨A9, c9, rfl⟩ : ∃ A c, v9 = .slice A (r'.out.length + 1) c := by obtain ⟨A, c, h⟩ := o5.row_n; exact ⟨A, c, by rw [h]; simp⟩
            refine wpList_append_run rfl (.tmp 38) (.tmp 43) 22 rfl rfl rfl hrun ?_
            simp only [Act.put, List.setIfInBounds_toArray, List.set_cons_zero, List.set_cons_succ]
            clear hrun c0 c1 c2
            have o6 : Own B (Bk w.heap.size 66 (xCells (.slice A' r'.out.length c') r') * (Bk (w.heap.size + 1) 66 #[.slice none 0 0, .int .i64 0, .int .i64 0] * (Rw 5 1 (.slice A9 (r'.out.length + 1) c9) (r'.out ++ [r'.low / 16777216]).length (bytesV (r'.out ++ [r'.low / 16777216])) * R))) w5 :=
              (o5.cast (show _ = Rw 5 1 v8 [r'.low / 16777216].length (bytesV [r'.low / 16777216]) * (Bk w.heap.size 66 (xCells (.slice A' r'.out.length c') r') * (Bk (w.heap.size + 1) 66 #[.slice none 0 0, .int .i64 0, .int .i64 0] * (Rw 5 1 (.slice A9 (r'.out.length + 1) c9) (r'.out ++ [r'.low / 16777216]).length (bytesV (r'.out ++ [r'.low / 16777216])) * R))) by ac_rfl)).right
            have c0 : w5.cell? ⟨w.heap.size, 0, none⟩ = some (.slice A' r'.out.length c') := o6.cell 0
            have c1 : w5.cell? ⟨w.heap.size, 1, none⟩ = some (.int .i64 r'.low) := o6.cell 1
            have c2 : w5.cell? ⟨w.heap.size, 2, none⟩ = some (.int .i64 r'.width) := o6.cell 2
            have z0 := o6.unfrozen 0
            have z1 := o6.unfrozen 1
            have z2 := o6.unfrozen 2
            have s0 := o6.set B5 0 (.slice A9 (r'.out.length + 1) c9)
            have s1 := s0.set (by simpa [World.setCell] using B5) 1 (.int .i64 (r'.low % 16777216 * 256))
            have s2 := s1.set (by simpa [World.setCell] using B5) 2 (.int .i64 (r'.width * 256))
            have d1 : (w5.setCell ⟨w.heap.size, 0, none⟩ (.slice A9 (r'.out.length + 1) c9)).cell? ⟨w.heap.size, 1, none⟩ = some (.int .i64 r'.low) := s0.cell 1
            have d2 : ((w5.setCell ⟨w.heap.size, 0, none⟩ (.slice A9 (r'.out.length + 1) c9)).setCell ⟨w.heap.size, 1, none⟩ (.int .i64 (r'.low % 16777216 * 256))).cell? ⟨w.heap.size, 2, none⟩ = some (.int .i64 r'.width) := s1.cell 2
            have t2 := (((b4.trans b5).trans (o6.below_set 0 (.slice A9 (r'.out.length + 1) c9))).trans (s0.below_set 1 (.int .i64 (r'.low % 16777216 * 256)))).trans (s1.below_set 2 (.int .i64 (r'.width * 256)))
            go_wp2
            go_roundg 0
            case measure => omega
            case rel =>
              have e9 : rnorm r' = ⟨r'.out ++ [r'.low / 16777216], r'.low % 16777216 * 256, r'.width * 256⟩ := by unfold rnorm; rw [if_pos hlt]
              refine ⟨.slice A9 (r'.out.length + 1) c9, rnorm r', ?_, hbb.trans t2, Lib.hid (.inr ⟨rfl, by rw [Hr'.out]; rfl, by rw [e9]; show 16777216 ≤ r'.width * 256; omega⟩)⟩
              rw [e9]
              exact s2
        · have hfin : r' = rput ⟨out, low, width⟩ bound bit := by
            rcases hk.out with ⟨_, h⟩ | ⟨_, h, _⟩
            · unfold rput rnorm; rw [← h, if_neg hlt]
            · exact h
          have q0 : wr.cell? ⟨w.heap.size + 1, 0, none⟩ = some (.slice none 0 0) := oY.cell 0
          have q1 : wr.cell? ⟨w.heap.size + 1, 1, none⟩ = some (.int .i64 0) := oY.cell 1
          have q2 : wr.cell? ⟨w.heap.size + 1, 2, none⟩ = some (.int .i64 0) := oY.cell 2
          have y0 := oY.unfrozen 0
          have y1 := oY.unfrozen 1
          have y2 := oY.unfrozen 2
          have s0 := oY.set Bw 0 (.slice A' r'.out.length c')
          have s1 := s0.set (by simpa [World.setCell] using Bw) 1 (.int .i64 r'.low)
          have s2 := s1.set (by simpa [World.setCell] using Bw) 2 (.int .i64 r'.width)
          have t2 := ((oY.below_set 0 (.slice A' r'.out.length c')).trans (s0.below_set 1 (.int .i64 r'.low))).trans (s1.below_set 2 (.int .i64 r'.width))
          have Hfin := Lib.hid hfin
          clear hfin hk
          go_wp2
          refine bodyPost_ret (results_cell_row rfl _ _ (w.heap.size + 1) 66 #[.slice A' r'.out.length c', .int .i64 r'.low, .int .i64 r'.width] (0, 0) _ rfl s2.bk.1 Try.underlying66 rfl (by kernel_rfl)) rfl ?_
          rw [← Hfin.out]
          exact ⟨.slice A' r'.out.length c', rfl, (s2.cast (show _ = Bk _ _ _ * (Bk _ _ _ * (Rw _ _ _ _ _ * R)) by ac_rfl)).right.right, hbb.trans t2⟩
    · have He1 : Hid ((⟨out, low + bound, width - bound⟩ : RW) = rcarry (rput1 ⟨out, low, width⟩ bound bit)) := Lib.hid (by unfold rcarry rput1; rw [if_neg hbit, if_neg (by show ¬ 4294967296 ≤ low + bound; omega)])
      have o4 := (HW.out (low + bound) (width - bound)).1
      have b4 := (HW.out (low + bound) (width - bound)).2
      go_wp2
      go_loopg [] 1 (fun k wr => ∃ (v' : Value) (r' : RW), Own B (Bk w.heap.size 66 (xCells v' r') * (Bk (w.heap.size + 1) 66 #[.slice none 0 0, .int .i64 0, .int .i64 0] * (Rw 5 1 v' r'.out.length (bytesV r'.out) * R))) wr ∧ Below B w wr ∧ Hid ((k = 1 ∧ r' = rcarry (rput1 ⟨out, low, width⟩ bound bit)) ∨ (k = 0 ∧ r' = rput ⟨out, low, width⟩ bound bit ∧ 16777216 ≤ r'.width)))
      case atStart => exact ⟨v, ⟨out, low + bound, width - bound⟩, o4, b4, Lib.hid (.inl ⟨rfl, He1.out⟩)⟩
      case round =>
        obtain ⟨v', r', ho, hbb, hk⟩ := hrel
        have Bw : B ≤ wr.heap.size := Nat.le_trans hB hbb.size
        obtain ⟨A', c', rfl⟩ := (ho.cast (show _ = Rw _ _ v' _ _ * (Bk _ _ (xCells v' r') * (Bk _ _ _ * R)) by ac_rfl)).row_n
        have c0 : wr.cell? ⟨w.heap.size, 0, none⟩ = some (.slice A' r'.out.length c') := ho.cell 0
        have c1 : wr.cell? ⟨w.heap.size, 1, none⟩ = some (.int .i64 r'.low) := ho.cell 1
        have c2 : wr.cell? ⟨w.heap.size, 2, none⟩ = some (.int .i64 r'.width) := ho.cell 2
        have oY := ho.cast (sep_left_comm _ _ _)
        by_cases hlt : r'.width < 16777216
        · have hk2 : gk = 1 ∧ r' = rcarry (rput1 ⟨out, low, width⟩ bound bit) := by
            rcases hk.out with h | ⟨_, _, h⟩
            · exact h
            · omega
          obtain ⟨rfl, hr'⟩ := hk2
          obtain ⟨p0, p1, p2, p3, p4⟩ := Hp.out
          rw [← hr'] at p0 p1 p2 p3 p4
          have Hr' := Lib.hid hr'
          have Hn := Lib.hid p4
          clear hr' hk p4
          go_wp2
          refine wp_region_ltwo (B := B) [1, 4] [2, 5, 6, 7] [0, 3] [8] [9, 10, 11] (Rw 5 1 (.slice A' r'.out.length c') r'.out.length (bytesV r'.out)) Emp (Bk w.heap.size 66 (xCells (.slice A' r'.out.length c') r') * (Bk (w.heap.size + 1) 66 #[.slice none 0 0, .int .i64 0, .int .i64 0] * R)) mixed (by kernel_rfl) rfl (fun _ _ _ _ _ h => h) Bw ((ho.emp.cast (by ac_rfl)).drew Bw) ?_
          simp only [List.filterMap_cons, List.filterMap_nil, List.getElem?_toArray, List.getElem?_cons_succ, List.getElem?_cons_zero]
          repeat (
            refine free_val ?_ rfl (fun w1 => ?_) ?_
            rotate_left
            · (go_simp
               try go_bits
               rfl)
            simp only [Act.put, List.setIfInBounds_toArray, List.set_cons_zero, List.set_cons_succ])
          refine free_nil ?_
          repeat (first
            | (refine late_val ?_ rfl (fun w1 hS => ?_) ?_
               rotate_left
               · (have c0 : w1.cell? ⟨w.heap.size, 0, none⟩ = some (.slice A' r'.out.length c') := hS.cell 0; have c1 : w1.cell? ⟨w.heap.size, 1, none⟩ = some (.int .i64 r'.low) := hS.cell 1
                  go_simp
                  try go_bits
                  rfl)
               simp only [Act.put, List.setIfInBounds_toArray, List.set_cons_zero, List.set_cons_succ])
            | (refine late_off rfl ?_
               simp only [Act.put, List.setIfInBounds_toArray, List.set_cons_zero, List.set_cons_succ]))
          refine late_nil ?_
          refine ⟨fun vs F => ∃ v0 v3, vs = [v0, v3] ∧ F = (Rw 5 1 v3 r'.out.length (bytesV r'.out) * Rw 5 1 (.slice A' r'.out.length c') r'.out.length (bytesV r'.out)), fun vs F => ∃ v8, vs = [v8] ∧ F = Rw 5 1 v8 [r'.low / 16777216].length (bytesV [r'.low / 16777216]), ?_, ?_, ?_⟩
          · simp only [opsOf, List.filterMap_cons, List.filterMap_nil, List.getElem?_toArray, List.getElem?_cons_succ, List.getElem?_cons_zero]
            refine tw_run (fun v F => F = (Rw 5 1 v ([] : List Int).length (bytesV []) * Rw 5 1 (.slice A' r'.out.length c') r'.out.length (bytesV r'.out))) rfl (fun R1 _ w1 hB1 hS => ⟨.slice (some ⟨w1.heap.size, 0, none⟩) 0 0, _, w1.alloc (.cells #[] 5), by go_simp, ⟨inferInstance, rfl⟩, ((hS.new hB1 5 #[]).rw_of_bk rfl (by unfold maxLen; decide)).assoc', (Below.refl B w1).alloc hB1 _⟩) ?_
            rintro v0 F0 _ rfl
            simp only [Act.put, List.setIfInBounds_toArray, List.set_cons_zero, List.set_cons_succ]
            refine tw_run (fun v F => F = (Rw 5 1 v r'.out.length (bytesV r'.out) * Rw 5 1 (.slice A' r'.out.length c') r'.out.length (bytesV r'.out))) rfl (fun R1 _ w1 hB1 hS => ?_) ?_
            · obtain ⟨v3, w3, hrun, o3, b3⟩ := append_two hB1 hS.assoc (by have := Hn.out; show 0 + _ ≤ _; omega)
              rw [List.nil_append] at o3
              exact ⟨v3, _, w3, exec_append (.tmp 35) (.tmp 37) 22 rfl rfl rfl hrun, ⟨inferInstance, rfl⟩, o3.assoc', b3⟩
            · rintro v3 F3 _ rfl
              exact tw_nil ⟨v0, v3, rfl, rfl⟩
          · simp only [opsOf, List.filterMap_cons, List.filterMap_nil, List.getElem?_toArray, List.getElem?_cons_succ, List.getElem?_cons_zero]
            refine tw_run (fun v F => F = Rw 5 1 v [r'.low / 16777216].length (bytesV [r'.low / 16777216])) rfl (fun R1 _ w1 hB1 hS => ⟨.slice (some ⟨w1.heap.size, 0, none⟩) 1 1, _, w1.alloc (.cells #[.int .u8 (r'.low / 16777216)] 5), by go_simp, ⟨inferInstance, rfl⟩, (hS.right.new hB1 5 #[.int .u8 (r'.low / 16777216)]).rw_of_bk rfl (by unfold maxLen; decide), (Below.refl B w1).alloc hB1 _⟩) ?_
            rintro v8 F8 _ rfl
            exact tw_nil ⟨v8, rfl, rfl⟩
          · rintro vs1 F1 vs2 F2 w4 ⟨v0, v3, rfl, rfl⟩ ⟨v8, rfl, rfl⟩ o4 b4
            simp only [opsOf, putAll, Act.put, List.filterMap_cons, List.filterMap_nil, List.getElem?_toArray, List.getElem?_cons_succ, List.getElem?_cons_zero, List.setIfInBounds_toArray, List.set_cons_zero, List.set_cons_succ]
            have B4 := Nat.le_trans Bw b4.size
            have o4 : Own B (Rw 5 1 v3 r'.out.length (bytesV r'.out) * (Rw 5 1 v8 [r'.low / 16777216].length (bytesV [r'.low / 16777216]) * (Bk w.heap.size 66 (xCells (.slice A' r'.out.length c') r') * (Bk (w.heap.size + 1) 66 #[.slice none 0 0, .int .i64 0, .int .i64 0] * R)))) w4 :=
              (o4.cast (show _ = Rw 5 1 (.slice A' r'.out.length c') r'.out.length (bytesV r'.out) * (Rw 5 1 v3 r'.out.length (bytesV r'.out) * (Rw 5 1 v8 [r'.low / 16777216].length (bytesV [r'.low / 16777216]) * (Bk w.heap.size 66 (xCells (.slice A' r'.out.length c') r') * (Bk (w.heap.size + 1) 66 #[.slice none 0 0, .int .i64 0, .int .i64 0] * R)))) by ac_rfl)).right
            obtain ⟨v9, w5, hrun, o5, b5⟩ := append_two B4 o4 (by have := Hn.out; show _ + 1 ≤ _; omega)
            have B5 := Nat.le_trans B4 b5.size
            obtain ⟨A9, c9, rfl⟩ : ∃ A c, v9 = .slice A (r'.out.length + 1) c := by obtain ⟨A, c, h⟩ := o5.row_n; exact ⟨A, c, by rw [h]; simp⟩
            refine wpList_append_run rfl (.tmp 38) (.tmp 43) 22 rfl rfl rfl hrun ?_
            simp only [Act.put, List.setIfInBounds_toArray, List.set_cons_zero, List.set_cons_succ]
            clear hrun c0 c1 c2
            have o6 : Own B (Bk w.heap.size 66 (xCells (.slice A' r'.out.length c') r') * (Bk (w.heap.size + 1) 66 #[.slice none 0 0, .int .i64 0, .int .i64 0] * (Rw 5 1 (.slice A9 (r'.out.length + 1) c9) (r'.out ++ [r'.low / 16777216]).length (bytesV (r'.out ++ [r'.low / 16777216])) * R))) w5 :=
              (o5.cast (show _ = Rw 5 1 v8 [r'.low / 16777216].length (bytesV [r'.low / 16777216]) * (Bk w.heap.size 66 (xCells (.slice A' r'.out.length c') r') * (Bk (w.heap.size + 1) 66 #[.slice none 0 0, .int .i64 0, .int .i64 0] * (Rw 5 1 (.slice A9 (r'.out.length + 1) c9) (r'.out ++ [r'.low / 16777216]).length (bytesV (r'.out ++ [r'.low / 16777216])) * R))) by ac_rfl)).right
            have c0 : w5.cell? ⟨w.heap.size, 0, none⟩ = some (.slice A' r'.out.length c') := o6.cell 0
            have c1 : w5.cell? ⟨w.heap.size, 1, none⟩ = some (.int .i64 r'.low) := o6.cell 1
            have c2 : w5.cell? ⟨w.heap.size, 2, none⟩ = some (.int .i64 r'.width) := o6.cell 2
            have z0 := o6.unfrozen 0
            have z1 := o6.unfrozen 1
            have z2 := o6.unfrozen 2
            have s0 := o6.set B5 0 (.slice A9 (r'.out.length + 1) c9)
            have s1 := s0.set (by simpa [World.setCell] using B5) 1 (.int .i64 (r'.low % 16777216 * 256))
            have s2 := s1.set (by simpa [World.setCell] using B5) 2 (.int .i64 (r'.width * 256))
            have d1 : (w5.setCell ⟨w.heap.size, 0, none⟩ (.slice A9 (r'.out.length + 1) c9)).cell? ⟨w.heap.size, 1, none⟩ = some (.int .i64 r'.low) := s0.cell 1
            have d2 : ((w5.setCell ⟨w.heap.size, 0, none⟩ (.slice A9 (r'.out.length + 1) c9)).setCell ⟨w.heap.size, 1, none⟩ (.int .i64 (r'.low % 16777216 * 256))).cell? ⟨w.heap.size, 2, none⟩ = some (.int .i64 r'.width) := s1.cell 2
            have t2 := (((b4.trans b5).trans (o6.below_set 0 (.slice A9 (r'.out.length + 1) c9))).trans (s0.below_set 1 (.int .i64 (r'.low % 16777216 * 256)))).trans (s1.below_set 2 (.int .i64 (r'.width * 256)))
            go_wp2
            go_roundg 0
            case measure => omega
            case rel =>
              have e9 : rnorm r' = ⟨r'.out ++ [r'.low / 16777216], r'.low % 16777216 * 256, r'.width * 256⟩ := by unfold rnorm; rw [if_pos hlt]
              refine ⟨.slice A9 (r'.out.length + 1) c9, rnorm r', ?_, hbb.trans t2, Lib.hid (.inr ⟨rfl, by rw [Hr'.out]; rfl, by rw [e9]; show 16777216 ≤ r'.width * 256; omega⟩)⟩
              rw [e9]
              exact s2
        · have hfin : r' = rput ⟨out, low, width⟩ bound bit := by
            rcases hk.out with ⟨_, h⟩ | ⟨_, h, _⟩
            · unfold rput rnorm; rw [← h, if_neg hlt]
            · exact h
          have q0 : wr.cell? ⟨w.heap.size + 1, 0, none⟩ = some (.slice none 0 0) := oY.cell 0
          have q1 : wr.cell? ⟨w.heap.size + 1, 1, none⟩ = some (.int .i64 0) := oY.cell 1
          have q2 : wr.cell? ⟨w.heap.size + 1, 2, none⟩ = some (.int .i64 0) := oY.cell 2
          have y0 := oY.unfrozen 0
          have y1 := oY.unfrozen 1
          have y2 := oY.unfrozen 2
          have s0 := oY.set Bw 0 (.slice A' r'.out.length c')
          have s1 := s0.set (by simpa [World.setCell] using Bw) 1 (.int .i64 r'.low)
          have s2 := s1.set (by simpa [World.setCell] using Bw) 2 (.int .i64 r'.width)
          have t2 := ((oY.below_set 0 (.slice A' r'.out.length c')).trans (s0.below_set 1 (.int .i64 r'.low))).trans (s1.below_set 2 (.int .i64 r'.width))
          have Hfin := Lib.hid hfin
          clear hfin hk
          go_wp2
          refine bodyPost_ret (results_cell_row rfl _ _ (w.heap.size + 1) 66 #[.slice A' r'.out.length c', .int .i64 r'.low, .int .i64 r'.width] (0, 0) _ rfl s2.bk.1 Try.underlying66 rfl (by kernel_rfl)) rfl ?_
          rw [← Hfin.out]
          exact ⟨.slice A' r'.out.length c', rfl, (s2.cast (show _ = Bk _ _ _ * (Bk _ _ _ * (Rw _ _ _ _ _ * R)) by ac_rfl)).right.right, hbb.trans t2⟩
end Go.Proofs.Ytedcficjmogohaa

/- The walks over Bit, Even and End of the writer that carries at once. -/
namespace Go.Proofs.Ytedcficjmogohaa
set_option linter.unusedVariables false
set_option linter.unusedSimpArgs false
set_option maxRecDepth 100000
open Go.RowKit

set_option maxHeartbeats 800000 in
theorem refbit_any (v : Value) (r : RW) (c bit : Int) (room : Int) (hr : 0 ≤ room) (ok : r.ok (room + 1)) (b0 : 65536 ≤ r.width / 2048 * c) (b1 : r.width / 2048 * c + 65536 ≤ r.width) (B : Nat) (R : HP) [Loc B R] (w : World) (hB : B ≤ w.heap.size) (hO : Own B (Rw 5 1 v r.out.length (bytesV r.out) * R) w) :
    Calls Try.prog 61 #[refV v r, .int .i64 c, .int .i64 bit] w fun e w' => ∃ v', Ret B w (refV v' (rput r (r.width / 2048 * c) bit)) (Rw 5 1 v' (rput r (r.width / 2048 * c) bit).out.length (bytesV (rput r (r.width / 2048 * c) bit).out) * R) e w' := by
  have Hok := Lib.hid ok
  have w0 := ok.width0
  have w1 := ok.width1
  obtain ⟨Q, hQ⟩ : ∃ Q, r.width / 2048 * c = Q := ⟨_, rfl⟩
  rw [hQ] at b0 b1 ⊢
  clear ok
  obtain ⟨r4, hr4⟩ : ∃ r4, rput r Q bit = r4 := ⟨_, rfl⟩
  rw [hr4]
  have Hr4 := Lib.hid hr4
  clear hr4
  have o1 := hO.alloc_keep hB (.cells #[v, .int .i64 r.low, .int .i64 r.width] 66)
  have b1' := (Below.refl B w).alloc hB (.cells #[v, .int .i64 r.low, .int .i64 r.width] 66)
  have B1 : B ≤ (w.alloc (.cells #[v, .int .i64 r.low, .int .i64 r.width] 66)).heap.size := by simp; omega
  have o2 := o1.new B1 66 #[.slice none 0 0, .int .i64 0, .int .i64 0]
  have b2' := b1'.alloc B1 (.cells #[.slice none 0 0, .int .i64 0, .int .i64 0] 66)
  have B2 := Nat.le_trans hB b2'.size
  rw [show (w.alloc (.cells #[v, .int .i64 r.low, .int .i64 r.width] 66)).heap.size = w.heap.size + 1 by simp] at o2
  clear o1
  show Calls _ _ #[.agg #[v, .int .i64 r.low, .int .i64 r.width], .int .i64 c, .int .i64 bit] _ _
  go_enter Try.func61, Try.ntmps61
  go_wp2_with fail
  refine (refput_any v r Q bit room hr Hok.out b0 b1 B _ _ B2 (o2.cast (sep_left_comm _ _ _))).mono ?_
  rintro e w4 ⟨v4, rfl, o4, b4⟩
  rw [Hr4.out] at o4 ⊢
  have B4 := Nat.le_trans B2 b4.size
  obtain ⟨A4, c4, rfl⟩ := o4.row_n
  have o5 := o4.cast (sep_left_comm _ _ _)
  have q0 : w4.cell? ⟨w.heap.size + 1, 0, none⟩ = some (.slice none 0 0) := o5.cell 0
  have q1 : w4.cell? ⟨w.heap.size + 1, 1, none⟩ = some (.int .i64 0) := o5.cell 1
  have q2 : w4.cell? ⟨w.heap.size + 1, 2, none⟩ = some (.int .i64 0) := o5.cell 2
  have y0 := o5.unfrozen 0
  have y1 := o5.unfrozen 1
  have y2 := o5.unfrozen 2
  simp only [refV]
  have s0 := o5.set B4 0 (.slice A4 r4.out.length c4)
  have s1 := s0.set (by simpa [World.setCell] using B4) 1 (.int .i64 r4.low)
  have s2 := s1.set (by simpa [World.setCell] using B4) 2 (.int .i64 r4.width)
  have t2 := ((o5.below_set 0 (.slice A4 r4.out.length c4)).trans (s0.below_set 1 (.int .i64 r4.low))).trans (s1.below_set 2 (.int .i64 r4.width))
  go_wp2
  refine bodyPost_ret (results_cell_row rfl _ _ (w.heap.size + 1) 66 #[.slice A4 r4.out.length c4, .int .i64 r4.low, .int .i64 r4.width] (0, 0) _ rfl s2.bk.1 Try.underlying66 rfl (by kernel_rfl)) rfl ?_
  exact ⟨.slice A4 r4.out.length c4, rfl, s2.right, (b2'.trans b4).trans t2⟩

set_option maxHeartbeats 800000 in
theorem refeven_any (v : Value) (r : RW) (bit : Int) (room : Int) (hr : 0 ≤ room) (ok : r.ok (room + 1)) (hw : 16777216 ≤ r.width) (B : Nat) (R : HP) [Loc B R] (w : World) (hB : B ≤ w.heap.size) (hO : Own B (Rw 5 1 v r.out.length (bytesV r.out) * R) w) :
    Calls Try.prog 39 #[refV v r, .int .i64 bit] w fun e w' => ∃ v', Ret B w (refV v' (rput r (r.width / 2) bit)) (Rw 5 1 v' (rput r (r.width / 2) bit).out.length (bytesV (rput r (r.width / 2) bit).out) * R) e w' := by
  have Hok := Lib.hid ok
  have w0 := ok.width0
  have w1 := ok.width1
  clear ok
  obtain ⟨r4, hr4⟩ : ∃ r4, rput r (r.width / 2) bit = r4 := ⟨_, rfl⟩
  rw [hr4]
  have Hr4 := Lib.hid hr4
  clear hr4
  have o1 := hO.alloc_keep hB (.cells #[v, .int .i64 r.low, .int .i64 r.width] 66)
  have b1' := (Below.refl B w).alloc hB (.cells #[v, .int .i64 r.low, .int .i64 r.width] 66)
  have B1 : B ≤ (w.alloc (.cells #[v, .int .i64 r.low, .int .i64 r.width] 66)).heap.size := by simp; omega
  have o2 := o1.new B1 66 #[.slice none 0 0, .int .i64 0, .int .i64 0]
  have b2' := b1'.alloc B1 (.cells #[.slice none 0 0, .int .i64 0, .int .i64 0] 66)
  have B2 := Nat.le_trans hB b2'.size
  rw [show (w.alloc (.cells #[v, .int .i64 r.low, .int .i64 r.width] 66)).heap.size = w.heap.size + 1 by simp] at o2
  clear o1
  show Calls _ _ #[.agg #[v, .int .i64 r.low, .int .i64 r.width], .int .i64 bit] _ _
  go_enter Try.func39, Try.ntmps39
  go_wp2_with fail
  refine (refput_any v r (r.width / 2) bit room hr Hok.out (by omega) (by omega) B _ _ B2 (o2.cast (sep_left_comm _ _ _))).mono ?_
  rintro e w4 ⟨v4, rfl, o4, b4⟩
  rw [Hr4.out] at o4 ⊢
  have B4 := Nat.le_trans B2 b4.size
  obtain ⟨A4, c4, rfl⟩ := o4.row_n
  have o5 := o4.cast (sep_left_comm _ _ _)
  have q0 : w4.cell? ⟨w.heap.size + 1, 0, none⟩ = some (.slice none 0 0) := o5.cell 0
  have q1 : w4.cell? ⟨w.heap.size + 1, 1, none⟩ = some (.int .i64 0) := o5.cell 1
  have q2 : w4.cell? ⟨w.heap.size + 1, 2, none⟩ = some (.int .i64 0) := o5.cell 2
  have y0 := o5.unfrozen 0
  have y1 := o5.unfrozen 1
  have y2 := o5.unfrozen 2
  simp only [refV]
  have s0 := o5.set B4 0 (.slice A4 r4.out.length c4)
  have s1 := s0.set (by simpa [World.setCell] using B4) 1 (.int .i64 r4.low)
  have s2 := s1.set (by simpa [World.setCell] using B4) 2 (.int .i64 r4.width)
  have t2 := ((o5.below_set 0 (.slice A4 r4.out.length c4)).trans (s0.below_set 1 (.int .i64 r4.low))).trans (s1.below_set 2 (.int .i64 r4.width))
  go_wp2
  refine bodyPost_ret (results_cell_row rfl _ _ (w.heap.size + 1) 66 #[.slice A4 r4.out.length c4, .int .i64 r4.low, .int .i64 r4.width] (0, 0) _ rfl s2.bk.1 Try.underlying66 rfl (by kernel_rfl)) rfl ?_
  exact ⟨.slice A4 r4.out.length c4, rfl, s2.right, (b2'.trans b4).trans t2⟩

set_option maxHeartbeats 1600000 in
theorem refend_any (v : Value) (r : RW) (room : Int) (hr : 0 ≤ room) (ok : r.ok room) (B : Nat) (R : HP) [Loc B R] (w : World) (hB : B ≤ w.heap.size) (hO : Own B (Rw 5 1 v r.out.length (bytesV r.out) * R) w) :
    Calls Try.prog 41 #[refV v r] w fun e w' => ∃ v', Ret B w v' (Rw 5 1 v' (rend r).length (bytesV (rend r)) * R) e w' := by
  have l0 := ok.low0
  have l1 := ok.low1
  have Hn : Hid ((r.out.length : Int) ≤ 1099511627776) := Lib.hid (by have := ok.len; omega)
  clear ok
  have o1 := hO.new hB 66 #[v, .int .i64 r.low, .int .i64 r.width]
  have b1 := (Below.refl B w).alloc hB (.cells #[v, .int .i64 r.low, .int .i64 r.width] 66)
  have B1 : B ≤ (w.alloc (.cells #[v, .int .i64 r.low, .int .i64 r.width] 66)).heap.size := by simp; omega
  show Calls _ _ #[.agg #[v, .int .i64 r.low, .int .i64 r.width]] _ _
  go_enter Try.func41, Try.ntmps41
  go_wp2
  generalize w.alloc (.cells #[v, .int .i64 r.low, .int .i64 r.width] 66) = W1 at o1 b1 B1 ⊢
  generalize w.heap.size = X at o1 ⊢
  clear hO
  have hdiv : (r.low / 65536 % 256 : Int) = r.low / 65536 % 256 := rfl
  refine wp_region_ltwo (B := B) [1, 4, 8, 13, 18] [2, 5, 6, 7, 9, 10, 11, 12, 14, 15, 16, 17, 19, 20, 21] [0, 3] [22] [23, 24] (Rw 5 1 v r.out.length (bytesV r.out)) Emp (Bk X 66 #[v, .int .i64 r.low, .int .i64 r.width] * R) mixed (by kernel_rfl) rfl (fun _ _ _ _ _ h => h) B1 ((o1.emp.cast (by ac_rfl)).drew B1) ?_
  simp only [List.filterMap_cons, List.filterMap_nil, List.getElem?_toArray, List.getElem?_cons_succ, List.getElem?_cons_zero]
  repeat (
    refine free_val ?_ rfl (fun w1 => ?_) ?_
    rotate_left
    · (go_simp
       try go_bits
       rfl)
    simp only [Act.put, List.setIfInBounds_toArray, List.set_cons_zero, List.set_cons_succ])
  refine free_nil ?_
  repeat (first
    | (refine late_val ?_ rfl (fun w1 hS => ?_) ?_
       rotate_left
       · (have c0 : w1.cell? ⟨X, 0, none⟩ = some v := hS.cell 0; have c1 : w1.cell? ⟨X, 1, none⟩ = some (.int .i64 r.low) := hS.cell 1
          go_simp
          try go_bits
          rfl)
       simp only [Act.put, List.setIfInBounds_toArray, List.set_cons_zero, List.set_cons_succ])
    | (refine late_off rfl ?_
       simp only [Act.put, List.setIfInBounds_toArray, List.set_cons_zero, List.set_cons_succ]))
  refine late_nil ?_
  refine ⟨fun vs F => ∃ v0 v3, vs = [v0, v3] ∧ F = (Rw 5 1 v3 r.out.length (bytesV r.out) * Rw 5 1 v r.out.length (bytesV r.out)), fun vs F => ∃ v8, vs = [v8] ∧ F = Rw 5 1 v8 [r.low / 16777216, r.low / 65536 % 256, r.low / 256 % 256, r.low % 256].length (bytesV [r.low / 16777216, r.low / 65536 % 256, r.low / 256 % 256, r.low % 256]), ?_, ?_, ?_⟩
  · simp only [opsOf, List.filterMap_cons, List.filterMap_nil, List.getElem?_toArray, List.getElem?_cons_succ, List.getElem?_cons_zero]
    refine tw_run (fun u F => F = (Rw 5 1 u ([] : List Int).length (bytesV []) * Rw 5 1 v r.out.length (bytesV r.out))) rfl (fun R1 _ w1 hB1 hS => ⟨.slice (some ⟨w1.heap.size, 0, none⟩) 0 0, _, w1.alloc (.cells #[] 5), by go_simp, ⟨inferInstance, rfl⟩, ((hS.new hB1 5 #[]).rw_of_bk rfl (by unfold maxLen; decide)).assoc', (Below.refl B w1).alloc hB1 _⟩) ?_
    rintro v0 F0 _ rfl
    simp only [Act.put, List.setIfInBounds_toArray, List.set_cons_zero, List.set_cons_succ]
    refine tw_run (fun u F => F = (Rw 5 1 u r.out.length (bytesV r.out) * Rw 5 1 v r.out.length (bytesV r.out))) rfl (fun R1 _ w1 hB1 hS => ?_) ?_
    · obtain ⟨v3, w3, hrun, o3, b3⟩ := append_two hB1 hS.assoc (by have := Hn.out; show 0 + _ ≤ _; omega)
      rw [List.nil_append] at o3
      exact ⟨v3, _, w3, exec_append (.tmp 3) (.tmp 5) 22 rfl rfl rfl hrun, ⟨inferInstance, rfl⟩, o3.assoc', b3⟩
    · rintro v3 F3 _ rfl
      exact tw_nil ⟨v0, v3, rfl, rfl⟩
  · simp only [opsOf, List.filterMap_cons, List.filterMap_nil, List.getElem?_toArray, List.getElem?_cons_succ, List.getElem?_cons_zero]
    refine tw_run (fun u F => F = Rw 5 1 u [r.low / 16777216, r.low / 65536 % 256, r.low / 256 % 256, r.low % 256].length (bytesV [r.low / 16777216, r.low / 65536 % 256, r.low / 256 % 256, r.low % 256])) rfl (fun R1 _ w1 hB1 hS => ⟨.slice (some ⟨w1.heap.size, 0, none⟩) 4 4, _, w1.alloc (.cells #[.int .u8 (r.low / 16777216), .int .u8 (r.low / 65536 % 256), .int .u8 (r.low / 256 % 256), .int .u8 (r.low % 256)] 5), by go_simp, ⟨inferInstance, rfl⟩, (hS.right.new hB1 5 #[.int .u8 (r.low / 16777216), .int .u8 (r.low / 65536 % 256), .int .u8 (r.low / 256 % 256), .int .u8 (r.low % 256)]).rw_of_bk rfl (by unfold maxLen; decide), (Below.refl B w1).alloc hB1 _⟩) ?_
    rintro v8 F8 _ rfl
    exact tw_nil ⟨v8, rfl, rfl⟩
  · rintro vs1 F1 vs2 F2 w4 ⟨v0, v3, rfl, rfl⟩ ⟨v8, rfl, rfl⟩ o4 b4
    simp only [opsOf, putAll, Act.put, List.filterMap_cons, List.filterMap_nil, List.getElem?_toArray, List.getElem?_cons_succ, List.getElem?_cons_zero, List.setIfInBounds_toArray, List.set_cons_zero, List.set_cons_succ]
    have B4 := Nat.le_trans B1 b4.size
    have o4 := (o4.cast (show _ = Bk X 66 #[v, .int .i64 r.low, .int .i64 r.width] * (Rw 5 1 v r.out.length (bytesV r.out) * (Rw 5 1 v3 r.out.length (bytesV r.out) * (Rw 5 1 v8 [r.low / 16777216, r.low / 65536 % 256, r.low / 256 % 256, r.low % 256].length (bytesV [r.low / 16777216, r.low / 65536 % 256, r.low / 256 % 256, r.low % 256]) * R))) by ac_rfl)).right.right
    obtain ⟨v9, w5, hrun, o5, b5⟩ := append_two B4 o4 (by have := Hn.out; show _ + 4 ≤ _; omega)
    refine wpList_append_run rfl (.tmp 6) (.tmp 25) 22 rfl rfl rfl hrun ?_
    simp only [Act.put, List.setIfInBounds_toArray, List.set_cons_zero, List.set_cons_succ]
    go_wp2
    go_ret
    exact ⟨v9, rfl, (o5.cast (sep_left_comm _ _ _)).right, (b1.trans b4).trans b5⟩
end Go.Proofs.Ytedcficjmogohaa

/- The walk over the reference's Saw. -/
namespace Go.Proofs.Ytedcficjmogohaa
set_option linter.unusedVariables false
set_option linter.unusedSimpArgs false
set_option maxRecDepth 100000
open Go.RowKit

theorem sawref_any (n bit : Int) (h0 : -993 ≤ n) (h1 : n ≤ 993) (w : World) : Calls Try.prog 62 #[.int .i64 (n + 1024), .int .i64 bit] w fun e w' => e = .returned (.int .i64 (sawN n bit + 1024)) ∧ w = w' := by
  by_cases hb : bit = 0
  · subst hb
    have e0 : n + 1024 + (2048 - (n + 1024)) / 32 = sawN n 0 + 1024 := by simp only [sawN, if_true]; omega
    go_enter Try.func62, Try.ntmps62
    go_wp2
    go_ret
    exact ⟨rfl, rfl⟩
  · have hbb : (bit == 0) = false := by simpa using hb
    have e0 : n + 1024 - (n + 1024) / 32 = sawN n bit + 1024 := by simp only [sawN, if_neg hb]; omega
    go_enter Try.func62, Try.ntmps62
    go_wp2
    go_ret
    exact ⟨rfl, rfl⟩

end Go.Proofs.Ytedcficjmogohaa

/- Slices of structs as they lie: what they read as, and how they grow. -/
namespace Go.Proofs.Ytedcficjmogohaa
set_option linter.unusedVariables false
set_option linter.unusedSimpArgs false
set_option maxRecDepth 100000
open Go.RowKit

/-- A slice's elements, each of k cells, as they lie. -/
def RdA {α : Type} (k : Nat) (cs : α → List Value) (w : World) (A : Option Addr) (l : List α) : Prop :=
  ∀ i (h : i < l.length), ∃ b off, A = some ⟨b, off, none⟩ ∧ b < w.heap.size ∧ ∀ j u, (cs l[i])[j]? = some u → w.cell? ⟨b, off + i * k + j, none⟩ = some u
theorem RdA.below {α : Type} {k : Nat} {cs : α → List Value} {w w' : World} {A : Option Addr} {l : List α} (h : RdA k cs w A l) (hb : Below w.heap.size w w') : RdA k cs w' A l := fun i hi => by
  obtain ⟨b, off, ha, hlt, hc⟩ := h i hi
  exact ⟨b, off, ha, Nat.lt_of_lt_of_le hlt hb.size, fun j u hu => (hb.cell (p := ⟨b, off + i * k + j, none⟩) hlt).trans (hc j u hu)⟩
/-- The same where all that was there below B stays. -/
theorem RdA.below' {α : Type} {k B : Nat} {cs : α → List Value} {w w' : World} {A : Option Addr} {l : List α} (h : RdA k cs w A l) (hB : w.heap.size ≤ B) (hb : Below B w w') : RdA k cs w' A l := h.below (hb.mono hB)
theorem RdA.nil {α : Type} {k : Nat} {cs : α → List Value} {w : World} {A : Option Addr} : RdA k cs w A ([] : List α) := fun i h => absurd h (Nat.not_lt_zero _)

/-- What a call leaves that returns a slice of its own, or of what was there. -/
def RetA {α : Type} (k : Nat) (cs : α → List Value) (w : World) (l : List α) (e : Ending) (w' : World) : Prop := ∃ A c, e = .returned (.slice A l.length c) ∧ (l.length ≤ c ∧ c ≤ 9223372036854775807) ∧ RdA k cs w' A l ∧ Below w.heap.size w w'
theorem RetA.mk {α : Type} {k : Nat} {cs : α → List Value} {w w' : World} {l : List α} {e : Ending} {A : Option Addr} {n c : Nat} (he : e = .returned (.slice A n c)) (hn : n = l.length) (hc : n ≤ c ∧ c ≤ 9223372036854775807) (hr : RdA k cs w' A l) (hb : Below w.heap.size w w') : RetA k cs w l e w' := ⟨A, c, by rw [he, hn], by rw [← hn]; exact hc, hr, hb⟩
def flat {α : Type} (cs : α → List Value) (l : List α) : List Value := l.flatMap cs
theorem flat_snoc {α : Type} (cs : α → List Value) (l : List α) (a : α) : flat cs (l ++ [a]) = flat cs l ++ cs a := by unfold flat; rw [List.flatMap_append]; simp
theorem flat_get {α : Type} {k : Nat} {cs : α → List Value} (hk : ∀ a, (cs a).length = k) : ∀ (l : List α) (i : Nat) (h : i < l.length) (j : Nat) (u : Value), (cs l[i])[j]? = some u → (flat cs l)[i * k + j]? = some u
  | [], i, h, _, _, _ => absurd h (Nat.not_lt_zero _)
  | a :: l, 0, _, j, u, hu => by
    have hu : (cs a)[j]? = some u := hu
    show (cs a ++ flat cs l)[0 * k + j]? = some u
    rw [Nat.zero_mul, Nat.zero_add, List.getElem?_append_left (List.getElem?_eq_some_iff.1 hu).1]
    exact hu
  | a :: l, i + 1, h, j, u, hu => by
    show (cs a ++ flat cs l)[(i + 1) * k + j]? = some u
    rw [List.getElem?_append_right (by rw [hk, Nat.succ_mul]; omega), hk, show (i + 1) * k + j - k = i * k + j by rw [Nat.succ_mul]; omega]
    exact flat_get hk l i (by simpa using h) j u hu
theorem flat_length {α : Type} {k : Nat} {cs : α → List Value} (hk : ∀ a, (cs a).length = k) (l : List α) : (flat cs l).length = l.length * k := by
  induction l with
  | nil => simp [flat]
  | cons a l ih =>
    show (cs a ++ flat cs l).length = _
    rw [List.length_append, hk, ih, List.length_cons, Nat.succ_mul]; omega

/-- An owned row reads as what it holds. -/
theorem Own.rdA {α : Type} {k B : Nat} {cs : α → List Value} {R : HP} {w : World} {e : TypeId} {A : Option Addr} {n c : Nat} {l : List α} (hk : ∀ a, (cs a).length = k) (hn : n = l.length) (h : Own B (Rw e k (.slice A n c) n (flat cs l) * R) w) : RdA k cs w A l := by
  intro i hi
  have hr := h.row
  obtain ⟨g, cap, hf, _⟩ := hr.form (by omega)
  injection hf with h1 h2 h3
  subst h1
  have hlt := hr.lt g (by simp [Value.ownBlock])
  refine ⟨g, 0, rfl, hlt.2, fun j u hu => ?_⟩
  rw [Nat.zero_add]
  have := hr.cells (g := g) rfl (i * k + j) u (flat_get hk l i hi j u hu)
  rw [Addr.add_lit, Nat.zero_add] at this
  exact this

/-- An owned row's room. -/
theorem Own.cap {k B : Nat} {xs : List Value} {R : HP} {w : World} {e : TypeId} {A : Option Addr} {n c : Nat} (h : Own B (Rw e k (.slice A n c) n xs * R) w) : n ≤ c ∧ c ≤ 9223372036854775807 := by
  rcases h.row.2 with ⟨hv, hn⟩ | ⟨g, cap, cur, hv, _, _, h1, h2, _⟩
  · injection hv with _ h1 h2
    subst hn; subst h2
    exact ⟨Nat.le_refl _, by decide⟩
  · injection hv with _ _ h3
    subst h3
    exact ⟨h1, h2⟩
theorem cap0 : 0 ≤ 0 ∧ 0 ≤ 9223372036854775807 := ⟨Nat.le_refl _, by decide⟩
/-- One element more. -/
theorem row_append {P : Program} {B : Nat} {R : HP} [Loc B R] {w : World} (hB : B ≤ w.heap.size) {t e : TypeId} {i0 : TypeInfo} {z : Value} {k bytes : Nat} (ht : P.underlying t = some (.slice e)) (hi : P.info? e = some i0) (hz : i0.zero = some z)
    (hs : i0.size = k) (hy : i0.bytes = bytes) (hzs : z.cells.size = k) (hk : 0 < k) {v : Value} {n : Nat} {xs : List Value} (h : Own B (Rw e k v n xs * R) w) (cs : Array Value) (hcs : cs.size = k) (h1 : ∀ u ∈ cs.toList, u.oneCell' = true)
    (hn : n + 1 ≤ 9223372036854775807) (hby : (n + 1) * bytes ≤ 140737488355328) :
    ∃ g cap w', (Builtin.append_ #[t, t] t #[v, .slice (some ⟨w.heap.size, 0, none⟩) 1 1]).run P (w.alloc (.cells cs e)) = .ok (.slice (some ⟨g, 0, none⟩) (n + 1) cap) w' ∧
      Own B (Rw e k (.slice (some ⟨g, 0, none⟩) (n + 1) cap) (n + 1) (xs ++ cs.toList) * R) w' ∧ Below B w w' := by
  have h0 := h.alloc_keep hB (.cells cs e)
  have hB1 : B ≤ (w.alloc (.cells cs e)).heap.size := by simp; omega
  obtain ⟨v', w', hr, h2, h3, _, h5⟩ := run_append_own_at (P := P) (w.alloc (.cells cs e)) B t t e i0 z k bytes ht hi hz hs hy hzs hk v n xs h0.row
    ⟨w.heap.size, 0, none⟩ 1 1 cs.toList (by simp [hcs]) (fun j u hj => by
      rw [Addr.add_lit, Nat.zero_add, cell_of_row _ _ _ _ _ _ (heap_alloc_new w _)]
      simpa using hj) h1 (by unfold maxLen; omega) hby hB1
  have h6 := Own.appended hB1 h0 h2 h3 h5
  obtain ⟨g, cap, rfl, _⟩ := h2.form (by omega)
  exact ⟨g, cap, w', hr, h6.1, ((Below.refl B w).alloc hB _).trans h6.2⟩
/-- The operation that appends, met by its run. -/
theorem wpList_append_at {P : Program} {ops : Array Oper} {Q : Exit → Act → World → Prop} {rest : List Oper} {o : Oper} {a : Act} {w w' : World} (hgd : o.guard = none) (s x : Operand) (t : TypeId) {v u v' : Value}
    (ho : o.op = .call { callee := .builtin .append, args := #[s, x], argTypes := #[t, t] }) (hs : a.eval s = v) (hx : a.eval x = u) (hr : (Builtin.append_ #[t, t] o.type #[v, u]).run P w = .ok v' w')
    (h : wpList P ops Q rest (a.put o.dst v') w') : wpList P ops Q (o :: rest) a w := by
  refine wpList_plain hgd fun K hK => ?_
  unfold Oper.wp execOp
  simp only [ho, resolve, invoke, builtin, Sem.run_bind, Sem.run_pure, Result.andThen_ok, List.map_toArray, List.map_cons, List.map_nil, hs, hx, hr]
  exact hK _ _ h
/-- Two results: a struct that lies in memory, and a plain one. -/
theorem results_cell_tmp {P : Program} {fn : Func} {p q : Tmp} {ty : TypeId} (h : fn.results = #[.cell p ty, .tmp q]) (tmps : Array Value) (w : World) (g : Nat) (t : TypeId) (cs : Array Value) (fr : Nat × Nat) (d : TypeDesc)
    (hp : tmps.getD p undef = .pointer (some ⟨g, 0, none⟩)) (hg : w.heap[g]? = some (.cells cs t fr))
    (hu : P.underlying ty = some d) (hd : (match d with | .struct _ | .array _ _ => true | _ => false) = true) (hi : (P.info? ty).map (·.size) = some cs.size) :
    (results fn tmps).run P w = .ok (.tuple #[.agg cs, tmps.getD q undef]) w := by
  have hp' : tmps[p]?.getD undef = .pointer (some ⟨g, 0, none⟩) := by simpa using hp
  simp [results, h, hp', asAddr, run_loadVar_row w g t ty cs fr d hg hu hd hi]
theorem Own.step {B : Nat} {R : HP} [Loc B R] {w : World} {g : Nat} {t : TypeId} {cs : Array Value} (hB : B ≤ w.heap.size) (h : Own B (Bk g t cs * R) w) (i : Nat) (u : Value) :
    B ≤ (w.setCell ⟨g, i, none⟩ u).heap.size ∧ Own B (Bk g t (cs.setIfInBounds i u) * R) (w.setCell ⟨g, i, none⟩ u) ∧ Below B w (w.setCell ⟨g, i, none⟩ u) :=
  ⟨by simpa [World.setCell] using hB, h.set hB i u, h.below_set i u⟩
/-- A block of seven cells, stored over whole. -/
theorem Own.set7 {B : Nat} {R : HP} [Loc B R] {w : World} {g : Nat} {t : TypeId} {c0 c1 c2 c3 c4 c5 c6 : Value} (hB : B ≤ w.heap.size) (h : Own B (Bk g t #[c0, c1, c2, c3, c4, c5, c6] * R) w) (v0 v1 v2 v3 v4 v5 v6 : Value) :
    Own B (Bk g t #[v0, v1, v2, v3, v4, v5, v6] * R) (((((((w.setCell ⟨g, 0, none⟩ v0).setCell ⟨g, 1, none⟩ v1).setCell ⟨g, 2, none⟩ v2).setCell ⟨g, 3, none⟩ v3).setCell ⟨g, 4, none⟩ v4).setCell ⟨g, 5, none⟩ v5).setCell ⟨g, 6, none⟩ v6) ∧
    Below B w (((((((w.setCell ⟨g, 0, none⟩ v0).setCell ⟨g, 1, none⟩ v1).setCell ⟨g, 2, none⟩ v2).setCell ⟨g, 3, none⟩ v3).setCell ⟨g, 4, none⟩ v4).setCell ⟨g, 5, none⟩ v5).setCell ⟨g, 6, none⟩ v6) := by
  obtain ⟨k0, s0, b0⟩ := Own.step hB h 0 v0
  obtain ⟨k1, s1, b1⟩ := Own.step k0 s0 1 v1
  obtain ⟨k2, s2, b2⟩ := Own.step k1 s1 2 v2
  obtain ⟨k3, s3, b3⟩ := Own.step k2 s2 3 v3
  obtain ⟨k4, s4, b4⟩ := Own.step k3 s3 4 v4
  obtain ⟨k5, s5, b5⟩ := Own.step k4 s4 5 v5
  obtain ⟨k6, s6, b6⟩ := Own.step k5 s5 6 v6
  simp only [List.setIfInBounds_toArray, List.set_cons_zero, List.set_cons_succ] at s6
  exact ⟨s6, b0.trans (b1.trans (b2.trans (b3.trans (b4.trans (b5.trans b6)))))⟩
end Go.Proofs.Ytedcficjmogohaa

/- Words to find a part of what is owned, wherever it stands. -/
namespace Go.Proofs.Ytedcficjmogohaa
set_option linter.unusedVariables false
set_option linter.unusedSimpArgs false
set_option maxRecDepth 100000
open Go.RowKit

/-- A stands somewhere in W; R is the rest. -/
class Foc (A W : HP) (R : outParam HP) : Prop where
  out : W = A * R
instance (priority := high) Foc.here {A C : HP} : Foc A (A * C) C := ⟨rfl⟩
instance (priority := low) Foc.there {A D C R : HP} [f : Foc A C R] : Foc A (D * C) (D * R) := ⟨by rw [f.out]; exact sep_left_comm _ _ _⟩
theorem Own.foc {B : Nat} {W R : HP} {w : World} (A : HP) [f : Foc A W R] (h : Own B W w) : Own B (A * R) w := by rw [f.out] at h; exact h

/-- Block X stands somewhere in W. -/
class HasBk (B : Nat) (X : Nat) (W : HP) (t : outParam TypeId) (cs : outParam (Array Value)) (rep : outParam (Array Value → HP)) : Prop where
  out : ∃ C : HP, Loc B C ∧ W = Bk X t cs * C ∧ ∀ cs', rep cs' = Bk X t cs' * C
instance (priority := high) HasBk.here {B X : Nat} {t : TypeId} {cs : Array Value} {C : HP} [k : Loc B C] : HasBk B X (Bk X t cs * C) t cs (fun cs' => Bk X t cs' * C) := ⟨⟨C, k, rfl, fun _ => rfl⟩⟩
instance (priority := low) HasBk.there {B X : Nat} {t : TypeId} {cs : Array Value} {D C : HP} {rep : Array Value → HP} [k : Loc B D] [f : HasBk B X C t cs rep] : HasBk B X (D * C) t cs (fun cs' => D * rep cs') := ⟨by
  obtain ⟨E, kE, h1, h2⟩ := f.out
  exact ⟨D * E, inferInstance, by rw [h1]; exact sep_left_comm _ _ _, fun cs' => by rw [h2]; exact sep_left_comm _ _ _⟩⟩

section
variable {B : Nat} {W : HP} {w : World} {t : TypeId} {cs : Array Value} {rep : Array Value → HP}
theorem Own.cellOf (h : Own B W w) (X : Nat) [f : HasBk B X W t cs rep] (i : Nat) : w.cell? ⟨X, i, none⟩ = cs[i]? := by
  obtain ⟨C, _, h1, _⟩ := f.out
  rw [h1] at h
  exact h.cell i
theorem Own.freeOf (h : Own B W w) (X : Nat) [f : HasBk B X W t cs rep] (i : Nat) : w.frozen? ⟨X, i, none⟩ = false := by
  obtain ⟨C, _, h1, _⟩ := f.out
  rw [h1] at h
  exact h.unfrozen i
theorem Own.setOf (h : Own B W w) (hB : B ≤ w.heap.size) (X : Nat) [f : HasBk B X W t cs rep] (i : Nat) (u : Value) : Own B (rep (cs.setIfInBounds i u)) (w.setCell ⟨X, i, none⟩ u) ∧ Below B w (w.setCell ⟨X, i, none⟩ u) := by
  obtain ⟨C, k, h1, h2⟩ := f.out
  rw [h1] at h
  rw [h2]
  exact ⟨h.set hB i u, h.below_set i u⟩
theorem Own.blockOf (h : Own B W w) (X : Nat) [f : HasBk B X W t cs rep] : w.heap[X]? = some (.cells cs t (0, 0)) := by
  obtain ⟨C, _, h1, _⟩ := f.out
  rw [h1] at h
  exact h.bk.1
end
end Go.Proofs.Ytedcficjmogohaa

/- Rows of bytes: one more byte, a clone. -/
namespace Go.Proofs.Ytedcficjmogohaa
set_option linter.unusedVariables false
set_option linter.unusedSimpArgs false
set_option maxRecDepth 100000
open Go.RowKit

def bytesU (l : List UInt8) : List Value := l.map fun x => Value.int .u8 (x.toNat : Int)
theorem infoU8 : (Try.prog.info? 5).map (fun i => (i.zero, i.size, i.bytes)) = some (some (.int .u8 0), 1, 1) := by kernel_rfl
theorem run_append_none {P : Program} {w : World} (base : Nat) (t ty e : TypeId) (i : TypeInfo) (size : Nat) (ht : P.underlying t = some (.slice e)) (hi : P.info? e = some i)
    (v : Value) (n : Nat) (xs : List Value) (hown : w.ownsRow base e size v n xs) (c : Nat) :
    (Builtin.append_ #[t, t] ty #[v, .slice none 0 c]).run P w = .ok v w := by
  rcases hown.2 with ⟨rfl, rfl⟩ | ⟨g, cap, cur, rfl, _, _, hnc, _⟩
  · simp [Builtin.append_, run_underlying ht, sizeOf, typeInfo, hi, Builtin.lenOf, Builtin.firstCells]
  · simp [Builtin.append_, run_underlying ht, sizeOf, typeInfo, hi, Builtin.lenOf, Builtin.firstCells, hnc, storeCells]
theorem bytesU_length (l : List UInt8) : (bytesU l).length = l.length := by simp [bytesU]
theorem bytesU_append (a b : List UInt8) : bytesU (a ++ b) = bytesU a ++ bytesU b := by simp [bytesU]
set_option maxRecDepth 100000 in
/-- Bytes that one can read go behind a row that one owns. -/
theorem byte_append {B : Nat} {R : HP} [Loc B R] {w : World} (hB : B ≤ w.heap.size) {v : Value} {xs ys : List UInt8} {A : Option Addr} {c : Nat} (h : Own B (Rw 5 1 v xs.length (bytesU xs) * R) w) (hr : Rd w (.slice A ys.length c) (bytesU ys))
    (hn : xs.length + ys.length ≤ 140737488355328) :
    ∃ v' w', (Builtin.append_ #[22, 22] 22 #[v, .slice A ys.length c]).run Try.prog w = .ok v' w' ∧ Own B (Rw 5 1 v' (xs ++ ys).length (bytesU (xs ++ ys)) * R) w' ∧ Below B w w' := by
  obtain ⟨i0, hi, hz0, hz1, hz2⟩ := info_parts infoU8
  obtain ⟨A', c', hv, hrd⟩ := hr
  injection hv with e1 e2 e3
  subst e1; subst e3
  cases A with
  | none =>
    obtain rfl : ys = [] := by
      cases ys with
      | nil => rfl
      | cons y ys =>
        obtain ⟨ad, h1, _⟩ := hrd (by simp [bytesU])
        cases h1
    refine ⟨v, w, run_append_none (P := Try.prog) B 22 22 5 i0 1 Try.underlying22 hi v xs.length (bytesU xs) h.row c, by simpa using h, Below.refl B w⟩
  | some ad =>
    obtain ⟨v', w', hr, h2, h3, _, h5⟩ := run_append_own_at (P := Try.prog) w B 22 22 5 i0 _ 1 1 Try.underlying22 hi hz0 hz1 hz2 rfl (by omega) v xs.length (bytesU xs) h.row
      ad ys.length c (bytesU ys) (by rw [bytesU_length]; omega) (by
        intro j x hj
        have hne : bytesU ys ≠ [] := by intro e; rw [e] at hj; simp at hj
        obtain ⟨ad', h1, h2⟩ := hrd hne
        injection h1 with h1
        subst h1
        exact h2 j x hj) (by intro x hx; obtain ⟨y, _, rfl⟩ := List.mem_map.1 hx; rfl) (by unfold maxLen; omega) (by omega) hB
    have h6 := Own.appended hB h h2 h3 h5
    refine ⟨v', w', hr, ?_, h6.2⟩
    have := h6.1
    rw [List.length_append, bytesU_append]
    exact this
/-- A part of bytes that one can read. -/
theorem Rd.part {w : World} {A : Option Addr} {n c : Nat} {xs : List Value} (h : Rd w (.slice A n c) xs) (i m c' : Nat) (ys : List Value) (hy : ys = (xs.drop i).take m) (hm : ys.length = m) : Rd w (.slice (A.map (·.add i)) m c') ys := by
  obtain ⟨A', c1, hv, hrd⟩ := h
  injection hv with e1 e2 e3
  subst e1
  refine ⟨_, c', by rw [hm], fun hne => ?_⟩
  have hx : xs ≠ [] := by intro e; subst e; simp at hy; exact hne hy
  obtain ⟨ad, rfl, hc⟩ := hrd hx
  refine ⟨ad.add i, rfl, fun j u hj => ?_⟩
  rw [hy, List.getElem?_take] at hj
  split at hj
  · rw [List.getElem?_drop] at hj
    have := hc _ _ hj
    rw [Addr.add_add]
    exact this
  · cases hj
/-- What a call leaves that returns bytes of its own. -/
def RetB (w : World) (l : List UInt8) (e : Ending) (w' : World) : Prop := ∃ v, e = .returned v ∧ w'.ownsRow w.heap.size 5 1 v l.length (bytesU l) ∧ Below w.heap.size w w'
theorem RetB.mk {w w' : World} {l l' : List UInt8} {e : Ending} {v v' : Value} {B : Nat} {R : HP} (he : e = .returned v) (hv : v = v') (hl : l' = l) (hB : B = w.heap.size) (ho : Own B (Rw 5 1 v' l'.length (bytesU l') * R) w') (hb : Below w.heap.size w w') : RetB w l e w' := by
  subst hv; subst hl; subst hB; exact ⟨_, he, ho.row, hb⟩
theorem u8_cast (c : UInt8) : (c.toNat : Int) % 256 = c.toNat := by have := c.toNat_lt; omega
theorem byte_snoc {B : Nat} {R : HP} [Loc B R] {w : World} (hB : B ≤ w.heap.size) {v : Value} {xs : List UInt8} (h : Own B (Rw 5 1 v xs.length (bytesU xs) * R) w) (c : UInt8) (n : Int) (hn : n = (c.toNat : Int)) (hl : xs.length ≤ 140737488355327) :
    ∃ g cap w', (Builtin.append_ #[22, 22] 22 #[v, .slice (some ⟨w.heap.size, 0, none⟩) 1 1]).run Try.prog (w.alloc (.cells #[.int .u8 n] 5)) = .ok (.slice (some ⟨g, 0, none⟩) (xs ++ [c]).length cap) w' ∧
      Own B (Rw 5 1 (.slice (some ⟨g, 0, none⟩) (xs ++ [c]).length cap) (xs ++ [c]).length (bytesU (xs ++ [c])) * R) w' ∧ Below B w w' := by
  subst hn
  have h1 := h.alloc_keep hB (.cells #[.int .u8 (c.toNat : Int)] 5)
  have hB1 : B ≤ (w.alloc (.cells #[.int .u8 (c.toNat : Int)] 5)).heap.size := by simp; omega
  obtain ⟨v', w', hr, h2, h3⟩ := byte_append (A := some ⟨w.heap.size, 0, none⟩) (c := 1) (ys := [c]) hB1 h1
    ⟨_, 1, rfl, fun _ => ⟨_, rfl, fun j u hj => by
      match j, hj with
      | 0, hj => simp [bytesU] at hj; subst hj; simp [Addr.add]⟩⟩ (by simp; omega)
  obtain ⟨g, cap, rfl, _⟩ := h2.row.form (by simp)
  exact ⟨g, cap, w', hr, h2, ((Below.refl B w).alloc hB _).trans h3⟩

set_option maxRecDepth 100000 in
theorem clone_any (v : Value) (l : List UInt8) (w : World) (hr : Rd w v (bytesU l)) (hl : l.length ≤ 140737488355328) :
    Calls Try.prog 42 #[v] w (RetB w l) := by
  obtain ⟨i0, hi, hz0, hz1, hz2⟩ := info_parts infoU8
  obtain ⟨A, c, rfl, hr⟩ := hr
  have hlen : (bytesU l).length = l.length := by simp [bytesU]
  rcases A with _ | ad
  · obtain rfl : l = [] := by
      cases l with
      | nil => rfl
      | cons x l => obtain ⟨ad, h, _⟩ := hr (by simp [bytesU]); cases h
    have he := fun W : World => Lib.run_eql_slice_nil_nil (P := Try.prog) W (t := 22) (e := 5) 0 c Try.underlying22
    show Calls _ _ #[.slice none 0 c] _ _
    go_enter Try.func42, Try.ntmps42
    go_wp2
    go_ret
    exact ⟨.slice none 0 0, rfl, World.ownsRow_nil _ _ _ _, Below.refl _ _⟩
  · have hc : ∀ j u, (bytesU l)[j]? = some u → w.cell? (ad.add j) = some u := by
      intro j u hu
      obtain ⟨ad', h, hcc⟩ := hr (by intro e; rw [e] at hu; cases hu)
      injection h with h
      subst h
      exact hcc j u hu
    clear hr
    obtain ⟨v', w', hrun, ho, hg, _, hat⟩ := run_append_own_at (P := Try.prog) (w.alloc (.cells #[] 5)) w.heap.size 22 22 5 i0 _ 1 1 Try.underlying22 hi hz0 hz1 hz2 rfl (by omega)
      (.slice (some ⟨w.heap.size, 0, none⟩) 0 0) 0 [] ⟨rfl, .inr ⟨w.heap.size, 0, #[], rfl, Nat.le_refl _, heap_alloc_new w _, Nat.le_refl _, by unfold maxLen; omega, rfl, rfl⟩⟩ ad l.length c (bytesU l) (by rw [hlen]; omega)
      (fun j u hu => by
        have h1 := hc j u hu
        rw [World.cell?_alloc_lt _ _ _ (World.block_lt_of_cell? w _ h1)]
        exact h1)
      (by intro u hu; obtain ⟨x, _, rfl⟩ := List.mem_map.1 hu; rfl) (by unfold maxLen; omega) (by omega) (by simp)
    have hbe : Below w.heap.size w w' := ((Below.refl _ w).alloc (Nat.le_refl _) _).grown hg (by simp) (fun k hk => by simp [Value.ownBlock] at hk; omega)
    rw [List.nil_append, Nat.zero_add] at ho
    clear hc
    have he := fun W : World => Lib.run_eql_slice_some_nil (P := Try.prog) W (t := 22) (e := 5) ad (bytesU l).length c Try.underlying22
    rw [hlen] at he ⊢
    go_enter Try.func42, Try.ntmps42
    go_wp2_with (at_builtin; refine wpList_append_run rfl (.tmp 5) (.tmp 6) 22 rfl rfl rfl hrun ?_)
    go_ret
    exact ⟨v', rfl, ho, hbe⟩
end Go.Proofs.Ytedcficjmogohaa

/- A byte at a place of bytes that one can read. -/
namespace Go.Proofs.Ytedcficjmogohaa
set_option linter.unusedVariables false
set_option linter.unusedSimpArgs false
set_option maxRecDepth 100000
open Go.RowKit

theorem Rd.at {w : World} {A : Option Addr} {n c : Nat} {l : List UInt8} (h : Rd w (.slice A n c) (bytesU l)) (i : Nat) (hi : i < l.length) : ∃ ad, A = some ad ∧ w.cell? (ad.add i) = some (.int .u8 (l[i].toNat : Int)) := by
  obtain ⟨A', c', hv, hrd⟩ := h
  injection hv with e1 e2 e3
  subst e1
  obtain ⟨ad, rfl, hc⟩ := hrd (by intro e; rw [← List.length_eq_zero_iff, bytesU_length] at e; omega)
  exact ⟨ad, rfl, hc i _ (by simp [bytesU, hi])⟩
end Go.Proofs.Ytedcficjmogohaa

/- Tokens, and the bytes that they stand for: plain laws. -/
namespace Go.Proofs.Ytedcficjmogohaa
set_option linter.unusedVariables false
set_option linter.unusedSimpArgs false
set_option maxRecDepth 100000

/-- A literal, or a match. -/
structure Tk where
  lit : UInt8
  len : Int
  back : Int
deriving DecidableEq
instance : Inhabited Tk := ⟨⟨0, 0, 0⟩⟩
def tkL (t : Tk) : List Value := [.int .u8 (t.lit.toNat : Int), .int .i64 t.len, .int .i64 t.back]
theorem tkL_len (t : Tk) : (tkL t).length = 3 := rfl
def okI' (n : Int) : Prop := -9223372036854775808 ≤ n ∧ n ≤ 9223372036854775807
structure Tk.ok (t : Tk) : Prop where
  len : okI' t.len
  back : okI' t.back
def rightP (t : Tk) : Prop := (t.len = 0 ∧ t.back = 0) ∨ (3 ≤ t.len ∧ t.len ≤ 258 ∧ 1 ≤ t.back ∧ t.back ≤ 32768 ∧ t.lit = 0)
instance (t : Tk) : Decidable (rightP t) := by unfold rightP; infer_instance
def rightT (t : Tk) : Bool := decide (rightP t)
def maxT (t : Tk) : Int := if t.len < 1 then 1 else t.len
def fitsP (out : List UInt8) (t : Tk) (n : Int) : Prop := rightP t ∧ t.back ≤ (out.length : Int) ∧ (out.length : Int) + maxT t ≤ n
instance (out : List UInt8) (t : Tk) (n : Int) : Decidable (fitsP out t n) := by unfold fitsP; infer_instance
def fitsT (out : List UInt8) (t : Tk) (n : Int) : Bool := decide (fitsP out t n)
/-- So many bytes more, each as the one so far back. -/
def copyN (b : Nat) : Nat → List UInt8 → List UInt8
  | 0, out => out
  | k + 1, out => copyN b k (out ++ [(out[out.length - b]?).getD 0])
theorem copyN_succ (b : Nat) : ∀ (k : Nat) (out : List UInt8), copyN b (k + 1) out = copyN b k out ++ [((copyN b k out)[(copyN b k out).length - b]?).getD 0]
  | 0, out => rfl
  | k + 1, out => by rw [copyN, copyN_succ b k, copyN]
theorem copyN_len (b : Nat) : ∀ (k : Nat) (out : List UInt8), (copyN b k out).length = out.length + k
  | 0, out => rfl
  | k + 1, out => by rw [copyN, copyN_len b k, List.length_append]; simp; omega
def sawT (out : List UInt8) (t : Tk) : List UInt8 := if t.len = 0 then out ++ [t.lit] else copyN t.back.toNat t.len.toNat out
theorem sawT_len (out : List UInt8) (t : Tk) (h : rightP t) : ((sawT out t).length : Int) = out.length + maxT t := by
  unfold sawT maxT
  rcases h with ⟨h, _⟩ | ⟨h, _⟩
  · rw [if_pos h, if_pos (by omega)]; simp
  · rw [if_neg (by omega), if_neg (by omega), copyN_len]; omega
/-- What tokens stand for, one behind the other, if each may stand there. -/
def expT (n : Int) : List Tk → List UInt8 → Option (List UInt8)
  | [], out => some out
  | t :: l, out => if fitsP out t n then expT n l (sawT out t) else none
theorem expT_append {n : Int} : ∀ (a b : List Tk) (out : List UInt8), expT n (a ++ b) out = (expT n a out).bind (expT n b)
  | [], b, out => rfl
  | t :: a, b, out => by
    rw [List.cons_append, expT, expT]
    split
    · exact expT_append a b _
    · rfl
theorem expT_snoc {n : Int} (a : List Tk) (t : Tk) (out : List UInt8) : expT n (a ++ [t]) out = (expT n a out).bind fun o => if fitsP o t n then some (sawT o t) else none := by
  rw [expT_append]
  congr
theorem expT_len {n : Int} : ∀ (l : List Tk) (out r : List UInt8), (out.length : Int) ≤ n → expT n l out = some r → (r.length : Int) ≤ n ∧ out.length + l.length ≤ r.length
  | [], out, r, h, e => by injection e with e; subst e; exact ⟨h, by simp⟩
  | t :: l, out, r, h, e => by
    unfold expT at e
    split at e
    · rename_i hf
      have h2 := sawT_len out t hf.1
      have hm : 1 ≤ maxT t := by unfold maxT; split <;> omega
      have hn := hf.2.2
      obtain ⟨k1, k2⟩ := expT_len l _ r (by omega) e
      exact ⟨k1, by rw [List.length_cons]; omega⟩
    · cases e
theorem expT_fits {n : Int} : ∀ (l : List Tk) (out r : List UInt8), expT n l out = some r → ∀ m : Int, (∀ k : Nat, k = r.length → (k : Int) ≤ m) → expT m l out = some r
  | [], out, r, e, m, _ => e
  | t :: l, out, r, e, m, hm => by
    unfold expT at e ⊢
    split at e
    · rename_i hf
      have h2 := sawT_len out t hf.1
      have h3 := (expT_len (n := n) l _ r (by have := hf.2.2; omega) e).2
      have h4 := hm _ rfl
      rw [if_pos ⟨hf.1, hf.2.1, by omega⟩]
      exact expT_fits l _ r e m hm
    · cases e
def sizeT (l : List Tk) : Int := ((l.filter rightT).map maxT).sum
end Go.Proofs.Ytedcficjmogohaa
