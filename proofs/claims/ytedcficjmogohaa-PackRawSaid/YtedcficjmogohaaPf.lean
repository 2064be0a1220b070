/- Texts of one proof, merged: XP1 XLr XLb XLaw XDo. -/
import Derived.Test.YtedcficjmogohaaPe
import Derived.Deep.Slices
import Derived.ProofKit
import Derived.SizedLaws
import Derived.OpenShut
import Derived.ChangeOld
import Derived.Deep.Fields
import Derived.ChangeSame
/- The walks over the writer that carries at once. -/
namespace Go.Proofs.Ytedcficjmogohaa
set_option linter.unusedVariables false
set_option linter.unusedSimpArgs false
set_option maxRecDepth 100000
open Go.RowKit

def refV (v : Value) (r : RW) : Value := .agg #[v, .int .i64 r.low, .int .i64 r.width]

theorem refbegin_any (B : Nat) (R : HP) [Loc B R] (w : World) (hB : B ≤ w.heap.size) (hO : Own B R w) :
    Calls Try.prog 36 #[] w (Ret B w (refV (.slice none 0 0) ⟨[], 0, 4294967295⟩) R) := by
  go_enter Try.func36, Try.ntmps36
  go_wp2
  refine bodyPost_ret (results_cell_row rfl _ _ w.heap.size 66 #[.slice none 0 0, .int .i64 0, .int .i64 4294967295] (0, 0) _ rfl (heap_alloc_new w _) Try.underlying66 rfl (by kernel_rfl)) rfl ?_
  exact ⟨rfl, hO.alloc_keep hB _, (Below.refl B w).alloc hB _⟩

set_option maxHeartbeats 800000 in
theorem carried_any (v : Value) (l : List Int) (hb : bytesOk l) (hl : l.length ≤ 1099511627776) (B : Nat) (R : HP) [Loc B R] (w : World) (hB : B ≤ w.heap.size) (hO : Own B (Rw 5 1 v l.length (bytesV l) * R) w) :
    Calls Try.prog 75 #[v] w fun e w' => ∃ v', Ret B w v' (Rw 5 1 v' (carryL l).length (bytesV (carryL l)) * R) e w' := by
  have o1 : Own B (Rw 5 1 (.slice (some ⟨w.heap.size, 0, none⟩) 0 0) ([] : List Int).length (bytesV []) * (Rw 5 1 v l.length (bytesV l) * R)) (w.alloc (.cells #[] 5)) := (hO.new hB 5 #[]).rw_of_bk rfl (by unfold maxLen; decide)
  have B1 : B ≤ (w.alloc (.cells #[] 5)).heap.size := by simp; omega
  have b1 := (Below.refl B w).alloc hB (.cells #[] 5)
  obtain ⟨v2, w2, hrun, o2, b2⟩ := append_two B1 o1 (by show 0 + l.length ≤ _; omega)
  have B2 : B ≤ w2.heap.size := Nat.le_trans B1 b2.size
  rw [List.nil_append] at o2
  have o3 := (o2.cast (sep_left_comm _ _ _)).drop
  obtain ⟨A2, c2, rfl⟩ := o3.row_n
  clear o1 o2 hO
  go_enter Try.func75, Try.ntmps75
  go_wp2_with (at_builtin; refine wpList_append_run rfl (.tmp 5) (.tmp 6) 22 rfl rfl rfl hrun ?_)
  clear hrun
  have Hb := Lib.hid hb
  have Hl := Lib.hid hl
  clear hb hl
  have b2 := b1.trans b2
  clear b1
  go_loopg [4] l.length (fun k i wr => i = .int .i64 ((k : Int) - 1) ∧ ∃ (l1 : List Int) (m : Nat), l1.length = k ∧ Hid (l = l1 ++ List.replicate m 255) ∧ Own B (Rw 5 1 (.slice A2 l.length c2) l.length (bytesV (l1 ++ List.replicate m 0)) * R) wr ∧ Below B w wr)
  case atStart => exact ⟨rfl, l, 0, rfl, Lib.hid (by simp), by simpa using o3, b2⟩
  case round =>
    obtain ⟨rfl, l1, m, hk, hle, ho, hbb⟩ := hrel
    have Bw : B ≤ wr.heap.size := Nat.le_trans hB hbb.size
    by_cases hk0 : gk = 0
    · subst hk0
      obtain rfl : l1 = [] := List.eq_nil_of_length_eq_zero hk
      go_wp2
      go_ret
      have e1 : carryL l = List.replicate m 0 := by rw [hle.out, List.nil_append, carryL_all]
      have e2 : l.length = m := by rw [hle.out]; simp
      refine ⟨.slice A2 l.length c2, rfl, ?_, hbb⟩
      rw [e1, List.length_replicate]
      rw [e2, List.nil_append] at ho
      rw [e2]
      exact ho
    · obtain ⟨j, rfl⟩ : ∃ j, gk = j + 1 := ⟨gk - 1, by omega⟩
      obtain ⟨l2, c, rfl⟩ : ∃ l2 c, l1 = l2 ++ [c] := by
        rcases List.eq_nil_or_concat l1 with rfl | ⟨l2, c, h⟩
        · simp at hk
        · exact ⟨l2, c, by simpa using h⟩
      have hk2 : l2.length = j := by simpa using hk
      have hlen : l.length = j + 1 + m := by rw [hle.out]; simp; omega
      obtain ⟨c0, c1⟩ := Hb.out c (by rw [hle.out]; simp)
      obtain ⟨g, rfl⟩ : ∃ g, A2 = some ⟨g, 0, none⟩ := by
        rcases ho.row.2 with ⟨h, hn⟩ | ⟨g, cap, cur, h, _⟩
        · omega
        · injection h with h; exact ⟨g, h⟩
      have hcell : wr.cell? ⟨g, j, none⟩ = some (.int .u8 c) := by
        rw [ho.row.cellAt j (by omega)]
        simp [bytesV, hk2, List.getElem?_append]
      have hz := ho.row.frozenAt j
      have hst := fun u => ho.row_set Bw j u
      have hnew : ∀ u, (wr.setCell ⟨g, j, none⟩ u).cell? ⟨g, j, none⟩ = some u := fun u => by
        rw [(hst u).1.row.cellAt j (by omega)]
        simp [bytesV, hk2]
      have hbody : ∀ x : Int, (bytesV (l2 ++ [c] ++ List.replicate m 0)).set j (.int .u8 x) = bytesV (l2 ++ [x] ++ List.replicate m 0) := fun x => by
        simp [bytesV, List.set_append, hk2]
      have e1 : ((j + 1 : Nat) : Int) - 1 = (j : Int) := by omega
      have i0 : (0 : Int) ≤ (j : Int) := by omega
      have i1 : (j : Int) < (l.length : Int) := by omega
      have i2 : (l.length : Int) ≤ 1099511627776 := by have := Hl.out; omega
      rw [e1]
      clear e1
      by_cases h255 : c = 255
      · subst h255
        have n0 := hnew (.int .u8 0)
        clear hnew
        go_wp2
        go_roundg j
        case measure => omega
        case rel =>
          refine ⟨rfl, l2, m + 1, hk2, Lib.hid (by rw [hle.out, List.replicate_succ]; simp), ?_, hbb.trans (hst _).2⟩
          have := (hst (.int .u8 0)).1
          rw [hbody 0] at this
          rw [List.replicate_succ]
          simpa using this
      · have c2' : c < 255 := by omega
        have hne : ¬ c + 1 = 0 := by omega
        have n0 := hnew (.int .u8 (c + 1))
        clear hnew
        go_wp2
        go_ret
        have e1 : carryL l = l2 ++ [c + 1] ++ List.replicate m 0 := by rw [hle.out, carryL_end _ _ h255]
        have e2 : (l2 ++ [c + 1] ++ List.replicate m 0).length = l.length := by simp; omega
        refine ⟨.slice (some ⟨g, 0, none⟩) l.length c2, rfl, ?_, hbb.trans (hst _).2⟩
        rw [e1, e2]
        have := (hst (.int .u8 (c + 1))).1
        rw [hbody] at this
        exact this

/-- What stands of the writer that carries at once. -/
structure RW.ok (r : RW) (room : Int) : Prop where
  bytes : bytesOk r.out
  len : (r.out.length : Int) + room ≤ 1099511627776
  low0 : 0 ≤ r.low
  low1 : r.low < 4294967296
  width0 : 0 ≤ r.width
  width1 : r.width < 4294967296
  sum : r.low + r.width < 8589934592

theorem carryL_len (l : List Int) : (carryL l).length = l.length := by
  have h : ∀ l : List Int, (carryR l).length = l.length := by
    intro l
    induction l with
    | nil => rfl
    | cons c l ih => unfold carryR; split <;> simp [ih]
  simp [carryL, h]
theorem carryL_bytes {l : List Int} (hb : bytesOk l) : bytesOk (carryL l) := by
  have h : ∀ l : List Int, bytesOk l → bytesOk (carryR l) := by
    intro l
    induction l with
    | nil => exact fun h => h
    | cons c l ih =>
      intro h
      have hc := h c List.mem_cons_self
      have hl : bytesOk l := fun x hx => h x (List.mem_cons_of_mem _ hx)
      unfold carryR
      split
      · intro x hx
        rcases List.mem_cons.1 hx with rfl | hx
        · omega
        · exact ih hl x hx
      · intro x hx
        rcases List.mem_cons.1 hx with rfl | hx
        · omega
        · exact hl x hx
  intro x hx
  exact h l.reverse (fun y hy => hb y (List.mem_reverse.1 hy)) x (List.mem_reverse.1 hx)
theorem rput1_facts {r : RW} {bound : Int} (bit : Int) {room : Int} (ok : r.ok (room + 1)) (b0 : 65536 ≤ bound) (b1 : bound + 65536 ≤ r.width) :
    (rcarry (rput1 r bound bit)).ok (room + 1) ∧ 65536 ≤ (rcarry (rput1 r bound bit)).width := by
  obtain ⟨out, low, width⟩ := r
  obtain ⟨ob, ol, l0, l1, w0, w1, sm⟩ := ok
  simp only at ob ol l0 l1 w0 w1 sm b1
  by_cases hbit : bit = 0
  · have e : rcarry (rput1 ⟨out, low, width⟩ bound bit) = ⟨out, low, bound⟩ := by unfold rcarry rput1; rw [if_pos hbit, if_neg (by show ¬ 4294967296 ≤ low; omega)]
    rw [e]
    exact ⟨⟨ob, ol, l0, l1, by show 0 ≤ bound; omega, by show bound < _; omega, by show low + bound < _; omega⟩, b0⟩
  · by_cases hcar : 4294967296 ≤ low + bound
    · have e : rcarry (rput1 ⟨out, low, width⟩ bound bit) = ⟨carryL out, low + bound - 4294967296, width - bound⟩ := by unfold rcarry rput1; rw [if_neg hbit, if_pos (by show 4294967296 ≤ low + bound; omega)]
      rw [e]
      exact ⟨⟨carryL_bytes ob, by rw [carryL_len]; exact ol, by show 0 ≤ low + bound - 4294967296; omega, by show low + bound - 4294967296 < _; omega, by show 0 ≤ width - bound; omega, by show width - bound < _; omega, by show low + bound - 4294967296 + (width - bound) < _; omega⟩, by show 65536 ≤ width - bound; omega⟩
    · have e : rcarry (rput1 ⟨out, low, width⟩ bound bit) = ⟨out, low + bound, width - bound⟩ := by unfold rcarry rput1; rw [if_neg hbit, if_neg (by show ¬ 4294967296 ≤ low + bound; omega)]
      rw [e]
      exact ⟨⟨ob, ol, by show 0 ≤ low + bound; omega, by show low + bound < _; omega, by show 0 ≤ width - bound; omega, by show width - bound < _; omega, by show low + bound + (width - bound) < _; omega⟩, by show 65536 ≤ width - bound; omega⟩
theorem rput_ok {r : RW} {bound : Int} (bit : Int) {room : Int} (ok : r.ok (room + 1)) (b0 : 65536 ≤ bound) (b1 : bound + 65536 ≤ r.width) : (rput r bound bit).ok room ∧ 16777216 ≤ (rput r bound bit).width := by
  obtain ⟨⟨ob, ol, l0, l1, w0, w1, sm⟩, hw⟩ := rput1_facts bit ok b0 b1
  unfold rput rnorm
  split
  · refine ⟨⟨?_, by simp; omega, by show 0 ≤ _ % 16777216 * 256; omega, by show _ % 16777216 * 256 < _; omega, by show 0 ≤ _ * 256; omega, by show _ * 256 < _; omega, by show _ % 16777216 * 256 + _ * 256 < _; omega⟩, by show 16777216 ≤ _ * 256; omega⟩
    intro c hc
    rcases List.mem_append.1 hc with h | h
    · exact ob c h
    · simp at h; omega
  · exact ⟨⟨ob, by omega, l0, l1, w0, w1, sm⟩, by omega⟩

def xCells (v : Value) (r : RW) : Array Value := #[v, .int .i64 r.low, .int .i64 r.width]

set_option maxHeartbeats 1600000 in
theorem refput_any (v : Value) (r : RW) (bound bit : Int) (room : Int) (hr : 0 ≤ room) (ok : r.ok (room + 1)) (b0 : 65536 ≤ bound) (b1 : bound + 65536 ≤ r.width) (B : Nat) (R : HP) [Loc B R] (w : World) (hB : B ≤ w.heap.size) (hO : Own B (Rw 5 1 v r.out.length (bytesV r.out) * R) w) :
    Calls Try.prog 63 #[refV v r, .int .i64 bound, .int .i64 bit] w fun e w' => ∃ v', Ret B w (refV v' (rput r bound bit)) (Rw 5 1 v' (rput r bound bit).out.length (bytesV (rput r bound bit).out) * R) e w' := by
  obtain ⟨out, low, width⟩ := r
  obtain ⟨ob, ol, l0, l1, w0, w1, sm⟩ := ok
  simp only at ob ol l0 l1 w0 w1 sm b1
  have hf := rput1_facts (r := ⟨out, low, width⟩) bit ⟨ob, ol, l0, l1, w0, w1, sm⟩ b0 b1
  have Hp : Hid (65536 ≤ (rcarry (rput1 ⟨out, low, width⟩ bound bit)).width ∧ (rcarry (rput1 ⟨out, low, width⟩ bound bit)).width < 4294967296 ∧ 0 ≤ (rcarry (rput1 ⟨out, low, width⟩ bound bit)).low ∧ (rcarry (rput1 ⟨out, low, width⟩ bound bit)).low < 4294967296 ∧ ((rcarry (rput1 ⟨out, low, width⟩ bound bit)).out.length : Int) + (room + 1) ≤ 1099511627776) := Lib.hid ⟨hf.2, hf.1.width1, hf.1.low0, hf.1.low1, hf.1.len⟩
  clear hf
  have Hob := Lib.hid ob
  have Hol := Lib.hid ol
  have hW : ∀ lo wi : Int, Own B (Bk w.heap.size 66 #[v, .int .i64 lo, .int .i64 wi] * (Bk (w.heap.size + 1) 66 #[.slice none 0 0, .int .i64 0, .int .i64 0] * (Rw 5 1 v out.length (bytesV out) * R)))
      ((w.alloc (.cells #[v, .int .i64 lo, .int .i64 wi] 66)).alloc (.cells #[.slice none 0 0, .int .i64 0, .int .i64 0] 66)) ∧
      Below B w ((w.alloc (.cells #[v, .int .i64 lo, .int .i64 wi] 66)).alloc (.cells #[.slice none 0 0, .int .i64 0, .int .i64 0] 66)) := by
    intro lo wi
    have o1 := hO.new hB 66 #[v, .int .i64 lo, .int .i64 wi]
    have b1' := (Below.refl B w).alloc hB (.cells #[v, .int .i64 lo, .int .i64 wi] 66)
    have B1 : B ≤ (w.alloc (.cells #[v, .int .i64 lo, .int .i64 wi] 66)).heap.size := by simp; omega
    have o2 := o1.new B1 66 #[.slice none 0 0, .int .i64 0, .int .i64 0]
    rw [show (w.alloc (.cells #[v, .int .i64 lo, .int .i64 wi] 66)).heap.size = w.heap.size + 1 by simp] at o2
    exact ⟨o2.cast (sep_left_comm _ _ _), b1'.alloc B1 _⟩
  have HW := Lib.hid hW
  clear hW hO
  show Calls _ _ #[.agg #[v, .int .i64 low, .int .i64 width], .int .i64 bound, .int .i64 bit] _ _
  go_enter Try.func63, Try.ntmps63
  by_cases hbit : bit = 0
  · subst hbit
    have He1 : Hid ((⟨out, low, bound⟩ : RW) = rcarry (rput1 ⟨out, low, width⟩ bound 0)) := Lib.hid (by unfold rcarry rput1; rw [if_pos rfl, if_neg (by show ¬ 4294967296 ≤ low; omega)])
    have o4 := (HW.out low bound).1
    have b4 := (HW.out low bound).2
    go_wp2
    go_loopg [] 1 (fun k wr => ∃ (v' : Value) (r' : RW), Own B (Bk w.heap.size 66 (xCells v' r') * (Bk (w.heap.size + 1) 66 #[.slice none 0 0, .int .i64 0, .int .i64 0] * (Rw 5 1 v' r'.out.length (bytesV r'.out) * R))) wr ∧ Below B w wr ∧ Hid ((k = 1 ∧ r' = rcarry (rput1 ⟨out, low, width⟩ bound 0)) ∨ (k = 0 ∧ r' = rput ⟨out, low, width⟩ bound 0 ∧ 16777216 ≤ r'.width)))
    case atStart => exact ⟨v, ⟨out, low, bound⟩, o4, b4, Lib.hid (.inl ⟨rfl, He1.out⟩)⟩
    case round =>
      obtain ⟨v', r', ho, hbb, hk⟩ := hrel
      have Bw : B ≤ wr.heap.size := Nat.le_trans hB hbb.size
      obtain ⟨A', c', rfl⟩ := (ho.cast (show _ = Rw _ _ v' _ _ * (Bk _ _ (xCells v' r') * (Bk _ _ _ * R)) by ac_rfl)).row_n
      have c0 : wr.cell? ⟨w.heap.size, 0, none⟩ = some (.slice A' r'.out.length c') := ho.cell 0
      have c1 : wr.cell? ⟨w.heap.size, 1, none⟩ = some (.int .i64 r'.low) := ho.cell 1
      have c2 : wr.cell? ⟨w.heap.size, 2, none⟩ = some (.int .i64 r'.width) := ho.cell 2
      have oY := ho.cast (sep_left_comm _ _ _)
      by_cases hlt : r'.width < 16777216
      · have hk2 : gk = 1 ∧ r' = rcarry (rput1 ⟨out, low, width⟩ bound 0) := by
          rcases hk.out with h | ⟨_, _, h⟩
          · exact h
          · omega
        obtain ⟨rfl, hr'⟩ := hk2
        obtain ⟨p0, p1, p2, p3, p4⟩ := Hp.out
        rw [← hr'] at p0 p1 p2 p3 p4
        have Hr' := Lib.hid hr'
        have Hn := Lib.hid p4
        clear hr' hk p4
        go_wp2
        refine wp_region_ltwo (B := B) [1, 4] [2, 5, 6, 7] [0, 3] [8] [9, 10, 11] (Rw 5 1 (.slice A' r'.out.length c') r'.out.length (bytesV r'.out)) Emp (Bk w.heap.size 66 (xCells (.slice A' r'.out.length c') r') * (Bk (w.heap.size + 1) 66 #[.slice none 0 0, .int .i64 0, .int .i64 0] * R)) mixed (by kernel_rfl) rfl (fun _ _ _ _ _ h => h) Bw ((ho.emp.cast (by ac_rfl)).drew Bw) ?_
        simp only [List.filterMap_cons, List.filterMap_nil, List.getElem?_toArray, List.getElem?_cons_succ, List.getElem?_cons_zero]
        repeat (
          refine free_val ?_ rfl (fun w1 => ?_) ?_
          rotate_left
          · (go_simp
             try go_bits
             rfl)
          simp only [Act.put, List.setIfInBounds_toArray, List.set_cons_zero, List.set_cons_succ])
        refine free_nil ?_
        repeat (first
          | (refine late_val ?_ rfl (fun w1 hS => ?_) ?_
             rotate_left
             · (have c0 : w1.cell? ⟨w.heap.size, 0, none⟩ = some (.slice A' r'.out.length c') := hS.cell 0; have c1 : w1.cell? ⟨w.heap.size, 1, none⟩ = some (.int .i64 r'.low) := hS.cell 1
                go_simp
                try go_bits
                rfl)
             simp only [Act.put, List.setIfInBounds_toArray, List.set_cons_zero, List.set_cons_succ])
          | (refine late_off rfl ?_
             simp only [Act.put, List.setIfInBounds_toArray, List.set_cons_zero, List.set_cons_succ]))
        refine late_nil ?_
        refine ⟨fun vs F => ∃ v0 v3, vs = [v0, v3] ∧ F = (Rw 5 1 v3 r'.out.length (bytesV r'.out) * Rw 5 1 (.slice A' r'.out.length c') r'.out.length (bytesV r'.out)), fun vs F => ∃ v8, vs = [v8] ∧ F = Rw 5 1 v8 [r'.low / 16777216].length (bytesV [r'.low / 16777216]), ?_, ?_, ?_⟩
        · simp only [opsOf, List.filterMap_cons, List.filterMap_nil, List.getElem?_toArray, List.getElem?_cons_succ, List.getElem?_cons_zero]
          refine tw_run (fun v F => F = (Rw 5 1 v ([] : List Int).length (bytesV []) * Rw 5 1 (.slice A' r'.out.length c') r'.out.length (bytesV r'.out))) rfl (fun R1 _ w1 hB1 hS => ⟨.slice (some ⟨w1.heap.size, 0, none⟩) 0 0, _, w1.alloc (.cells #[] 5), by go_simp, ⟨inferInstance, rfl⟩, ((hS.new hB1 5 #[]).rw_of_bk rfl (by unfold maxLen; decide)).assoc', (Below.refl B w1).alloc hB1 _⟩) ?_
          rintro v0 F0 _ rfl
          simp only [Act.put, List.setIfInBounds_toArray, List.set_cons_zero, List.set_cons_succ]
          refine tw_run (fun v F => F = (Rw 5 1 v r'.out.length (bytesV r'.out) * Rw 5 1 (.slice A' r'.out.length c') r'.out.length (bytesV r'.out))) rfl (fun R1 _ w1 hB1 hS => ?_) ?_
          · obtain ⟨v3, w3, hrun, o3, b3⟩ := append_two hB1 hS.assoc (by have := Hn.out; show 0 + _ ≤ _; omega)
            rw [List.nil_append] at o3
            exact ⟨v3, _, w3, exec_append (.tmp 35) (.tmp 37) 22 rfl rfl rfl hrun, ⟨inferInstance, rfl⟩, o3.assoc', b3⟩
          · rintro v3 F3 _ rfl
            exact tw_nil ⟨v0, v3, rfl, rfl⟩
        · simp only [opsOf, List.filterMap_cons, List.filterMap_nil, List.getElem?_toArray, List.getElem?_cons_succ, List.getElem?_cons_zero]
          refine tw_run (fun v F => F = Rw 5 1 v [r'.low / 16777216].length (bytesV [r'.low / 16777216])) rfl (fun R1 _ w1 hB1 hS => ⟨.slice (some ⟨w1.heap.size, 0, none⟩) 1 1, _, w1.alloc (.cells #[.int .u8 (r'.low / 16777216)] 5), by go_simp, ⟨inferInstance, rfl⟩, (hS.right.new hB1 5 #[.int .u8 (r'.low / 16777216)]).rw_of_bk rfl (by unfold maxLen; decide), (Below.refl B w1).alloc hB1 _⟩) ?_
          rintro v8 F8 _ rfl
          exact tw_nil ⟨v8, rfl, rfl⟩
        · rintro vs1 F1 vs2 F2 w4 ⟨v0, v3, rfl, rfl⟩ ⟨v8, rfl, rfl⟩ o4 b4
          simp only [opsOf, putAll, Act.put, List.filterMap_cons, List.filterMap_nil, List.getElem?_toArray, List.getElem?_cons_succ, List.getElem?_cons_zero, List.setIfInBounds_toArray, List.set_cons_zero, List.set_cons_succ]
          have B4 := Nat.le_trans Bw b4.size
          have o4 : Own B (Rw 5 1 v3 r'.out.length (bytesV r'.out) * (Rw 5 1 v8 [r'.low / 16777216].length (bytesV [r'.low / 16777216]) * (Bk w.heap.size 66 (xCells (.slice A' r'.out.length c') r') * (Bk (w.heap.size + 1) 66 #[.slice none 0 0, .int .i64 0, .int .i64 0] * R)))) w4 :=
            (o4.cast (show _ = Rw 5 1 (.slice A' r'.out.length c') r'.out.length (bytesV r'.out) * (Rw 5 1 v3 r'.out.length (bytesV r'.out) * (Rw 5 1 v8 [r'.low / 16777216].length (bytesV [r'.low / 16777216]) * (Bk w.heap.size 66 (xCells (.slice A' r'.out.length c') r') * (Bk (w.heap.size + 1) 66 #[.slice none 0 0, .int .i64 0, .int .i64 0] * R)))) by ac_rfl)).right
          obtain ⟨v9, w5, hrun, o5, b5⟩ := append_two B4 o4 (by have := Hn.out; show _ + 1 ≤ _; omega)
          have B5 := Nat.le_trans B4 b5.size
          obtain ⟨A9, c9, rfl⟩ : ∃ A c, v9 = .slice A (r'.out.length + 1) c := by obtain ⟨A, c, h⟩ := o5.row_n; exact ⟨A, c, by rw [h]; simp⟩
          refine wpList_append_run rfl (.tmp 38) (.tmp 43) 22 rfl rfl rfl hrun ?_
          simp only [Act.put, List.setIfInBounds_toArray, List.set_cons_zero, List.set_cons_succ]
          clear hrun c0 c1 c2
          have o6 : Own B (Bk w.heap.size 66 (xCells (.slice A' r'.out.length c') r') * (Bk (w.heap.size + 1) 66 #[.slice none 0 0, .int .i64 0, .int .i64 0] * (Rw 5 1 (.slice A9 (r'.out.length + 1) c9) (r'.out ++ [r'.low / 16777216]).length (bytesV (r'.out ++ [r'.low / 16777216])) * R))) w5 :=
            (o5.cast (show _ = Rw 5 1 v8 [r'.low / 16777216].length (bytesV [r'.low / 16777216]) * (Bk w.heap.size 66 (xCells (.slice A' r'.out.length c') r') * (Bk (w.heap.size + 1) 66 #[.slice none 0 0, .int .i64 0, .int .i64 0] * (Rw 5 1 (.slice A9 (r'.out.length + 1) c9) (r'.out ++ [r'.low / 16777216]).length (bytesV (r'.out ++ [r'.low / 16777216])) * R))) by ac_rfl)).right
          have c0 : w5.cell? ⟨w.heap.size, 0, none⟩ = some (.slice A' r'.out.length c') := o6.cell 0
          have c1 : w5.cell? ⟨w.heap.size, 1, none⟩ = some (.int .i64 r'.low) := o6.cell 1
          have c2 : w5.cell? ⟨w.heap.size, 2, none⟩ = some (.int .i64 r'.width) := o6.cell 2
          have z0 := o6.unfrozen 0
          have z1 := o6.unfrozen 1
          have z2 := o6.unfrozen 2
          have s0 := o6.set B5 0 (.slice A9 (r'.out.length + 1) c9)
          have s1 := s0.set (by simpa [World.setCell] using B5) 1 (.int .i64 (r'.low % 16777216 * 256))
          have s2 := s1.set (by simpa [World.setCell] using B5) 2 (.int .i64 (r'.width * 256))
          have d1 : (w5.setCell ⟨w.heap.size, 0, none⟩ (.slice A9 (r'.out.length + 1) c9)).cell? ⟨w.heap.size, 1, none⟩ = some (.int .i64 r'.low) := s0.cell 1
          have d2 : ((w5.setCell ⟨w.heap.size, 0, none⟩ (.slice A9 (r'.out.length + 1) c9)).setCell ⟨w.heap.size, 1, none⟩ (.int .i64 (r'.low % 16777216 * 256))).cell? ⟨w.heap.size, 2, none⟩ = some (.int .i64 r'.width) := s1.cell 2
          have t2 := (((b4.trans b5).trans (o6.below_set 0 (.slice A9 (r'.out.length + 1) c9))).trans (s0.below_set 1 (.int .i64 (r'.low % 16777216 * 256)))).trans (s1.below_set 2 (.int .i64 (r'.width * 256)))
          go_wp2
          go_roundg 0
          case measure => omega
          case rel =>
            have e9 : rnorm r' = ⟨r'.out ++ [r'.low / 16777216], r'.low % 16777216 * 256, r'.width * 256⟩ := by unfold rnorm; rw [if_pos hlt]
            refine ⟨.slice A9 (r'.out.length + 1) c9, rnorm r', ?_, hbb.trans t2, Lib.hid (.inr ⟨rfl, by rw [Hr'.out]; rfl, by rw [e9]; show 16777216 ≤ r'.width * 256; omega⟩)⟩
            rw [e9]
            exact s2
      · have hfin : r' = rput ⟨out, low, width⟩ bound 0 := by
          rcases hk.out with ⟨_, h⟩ | ⟨_, h, _⟩
          · unfold rput rnorm; rw [← h, if_neg hlt]
          · exact h
        have q0 : wr.cell? ⟨w.heap.size + 1, 0, none⟩ = some (.slice none 0 0) := oY.cell 0
        have q1 : wr.cell? ⟨w.heap.size + 1, 1, none⟩ = some (.int .i64 0) := oY.cell 1
        have q2 : wr.cell? ⟨w.heap.size + 1, 2, none⟩ = some (.int .i64 0) := oY.cell 2
        have y0 := oY.unfrozen 0
        have y1 := oY.unfrozen 1
        have y2 := oY.unfrozen 2
        have s0 := oY.set Bw 0 (.slice A' r'.out.length c')
        have s1 := s0.set (by simpa [World.setCell] using Bw) 1 (.int .i64 r'.low)
        have s2 := s1.set (by simpa [World.setCell] using Bw) 2 (.int .i64 r'.width)
        have t2 := ((oY.below_set 0 (.slice A' r'.out.length c')).trans (s0.below_set 1 (.int .i64 r'.low))).trans (s1.below_set 2 (.int .i64 r'.width))
        have Hfin := Lib.hid hfin
        clear hfin hk
        go_wp2
        refine bodyPost_ret (results_cell_row rfl _ _ (w.heap.size + 1) 66 #[.slice A' r'.out.length c', .int .i64 r'.low, .int .i64 r'.width] (0, 0) _ rfl s2.bk.1 Try.underlying66 rfl (by kernel_rfl)) rfl ?_
        rw [← Hfin.out]
        exact ⟨.slice A' r'.out.length c', rfl, (s2.cast (show _ = Bk _ _ _ * (Bk _ _ _ * (Rw _ _ _ _ _ * R)) by ac_rfl)).right.right, hbb.trans t2⟩
  · have hbit' : (bit == 0) = false := by simpa using hbit
    by_cases hcar : 4294967296 ≤ low + bound
    · have hin : low + bound - 4294967296 < 4294967296 := by omega
      have He1 : Hid ((⟨carryL out, low + bound - 4294967296, width - bound⟩ : RW) = rcarry (rput1 ⟨out, low, width⟩ bound bit)) := Lib.hid (by unfold rcarry rput1; rw [if_neg hbit, if_pos (by show 4294967296 ≤ low + bound; omega)])
      have o3 := (HW.out (low + bound - 4294967296) (width - bound)).1
      have b3 := (HW.out (low + bound - 4294967296) (width - bound)).2
      have B3 := Nat.le_trans hB b3.size
      go_wp2_with fail
      refine (carried_any v out Hob.out (by have := Hol.out; omega) B _ _ B3 (o3.cast (show _ = Rw _ _ v _ _ * (Bk w.heap.size _ _ * (Bk (w.heap.size + 1) _ _ * R)) by ac_rfl))).mono ?_
      rintro e w4 ⟨v4, rfl, o4, b4⟩
      obtain ⟨A4, c4, rfl⟩ := o4.row_n
      have B4 := Nat.le_trans B3 b4.size
      have o4 := o4.cast (show _ = Bk w.heap.size _ _ * (Bk (w.heap.size + 1) _ _ * (Rw _ _ (.slice A4 (carryL out).length c4) _ _ * R)) by ac_rfl)
      have z0 := o4.unfrozen 0
      have c0 : w4.cell? ⟨w.heap.size, 0, none⟩ = some v := o4.cell 0
      have o5 := o4.set B4 0 (.slice A4 (carryL out).length c4)
      have b5 := (b3.trans b4).trans (o4.below_set 0 (.slice A4 (carryL out).length c4))
      clear o3 b3 B3
      go_wp2
      clear c0 z0
      go_loopg [] 1 (fun k wr => ∃ (v' : Value) (r' : RW), Own B (Bk w.heap.size 66 (xCells v' r') * (Bk (w.heap.size + 1) 66 #[.slice none 0 0, .int .i64 0, .int .i64 0] * (Rw 5 1 v' r'.out.length (bytesV r'.out) * R))) wr ∧ Below B w wr ∧ Hid ((k = 1 ∧ r' = rcarry (rput1 ⟨out, low, width⟩ bound bit)) ∨ (k = 0 ∧ r' = rput ⟨out, low, width⟩ bound bit ∧ 16777216 ≤ r'.width)))
      case atStart => exact ⟨.slice A4 (carryL out).length c4, ⟨carryL out, bound + low - 4294967296, width - bound⟩, o5, b5, Lib.hid (.inl ⟨rfl, by rw [← He1.out, Int.add_comm bound low]⟩)⟩
      case round =>
        obtain ⟨v', r', ho, hbb, hk⟩ := hrel
        have Bw : B ≤ wr.heap.size := Nat.le_trans hB hbb.size
        obtain ⟨A', c', rfl⟩ := (ho.cast (show _ = Rw _ _ v' _ _ * (Bk _ _ (xCells v' r') * (Bk _ _ _ * R)) by ac_rfl)).row_n
        have c0 : wr.cell? ⟨w.heap.size, 0, none⟩ = some (.slice A' r'.out.length c') := ho.cell 0
        have c1 : wr.cell? ⟨w.heap.size, 1, none⟩ = some (.int .i64 r'.low) := ho.cell 1
        have c2 : wr.cell? ⟨w.heap.size, 2, none⟩ = some (.int .i64 r'.width) := ho.cell 2
        have oY := ho.cast (sep_left_comm _ _ _)
        by_cases hlt : r'.width < 16777216
        · have hk2 : gk = 1 ∧ r' = rcarry (rput1 ⟨out, low, width⟩ bound bit) := by
            rcases hk.out with h | ⟨_, _, h⟩
            · exact h
            · omega
          obtain ⟨rfl, hr'⟩ := hk2
          obtain ⟨p0, p1, p2, p3, p4⟩ := Hp.out
          rw [← hr'] at p0 p1 p2 p3 p4
          have Hr' := Lib.hid hr'
          have Hn := Lib.hid p4
          clear hr' hk p4
          go_wp2
          refine wp_region_ltwo (B := B) [1, 4] [2, 5, 6, 7] [0, 3] [8] [9, 10, 11] (Rw 5 1 (.slice A' r'.out.length c') r'.out.length (bytesV r'.out)) Emp (Bk w.heap.size 66 (xCells (.slice A' r'.out.length c') r') * (Bk (w.heap.size + 1) 66 #[.slice none 0 0, .int .i64 0, .int .i64 0] * R)) mixed (by kernel_rfl) rfl (fun _ _ _ _ _ h => h) Bw ((ho.emp.cast (by ac_rfl)).drew Bw) ?_
          simp only [List.filterMap_cons, List.filterMap_nil, List.getElem?_toArray, List.getElem?_cons_succ, List.getElem?_cons_zero]
          repeat (
            refine free_val ?_ rfl (fun w1 => ?_) ?_
            rotate_left
            · (go_simp
               try go_bits
               rfl)
            simp only [Act.put, List.setIfInBounds_toArray, List.set_cons_zero, List.set_cons_succ])
          refine free_nil ?_
          repeat (first
            | (refine late_val ?_ rfl (fun w1 hS => ?_) ?_
               rotate_left
               · (have c0 : w1.cell? ⟨w.heap.size, 0, none⟩ = some (.slice A' r'.out.length c') := hS.cell 0; have c1 : w1.cell? ⟨w.heap.size, 1, none⟩ = some (.int .i64 r'.low) := hS.cell 1
                  go_simp
                  try go_bits
                  rfl)
               simp only [Act.put, List.setIfInBounds_toArray, List.set_cons_zero, List.set_cons_succ])
            | (refine late_off rfl ?_
               simp only [Act.put, List.setIfInBounds_toArray, List.set_cons_zero, List.set_cons_succ]))
          refine late_nil ?_
          refine ⟨fun vs F => ∃ v0 v3, vs = [v0, v3] ∧ F = (Rw 5 1 v3 r'.out.length (bytesV r'.out) * Rw 5 1 (.slice A' r'.out.length c') r'.out.length (bytesV r'.out)), fun vs F => ∃ v8, vs = [v8] ∧ F = Rw 5 1 v8 [r'.low / 16777216].length (bytesV [r'.low / 16777216]), ?_, ?_, ?_⟩
          · simp only [opsOf, List.filterMap_cons, List.filterMap_nil, List.getElem?_toArray, List.getElem?_cons_succ, List.getElem?_cons_zero]
            refine tw_run (fun v F => F = (Rw 5 1 v ([] : List Int).length (bytesV []) * Rw 5 1 (.slice A' r'.out.length c') r'.out.length (bytesV r'.out))) rfl (fun R1 _ w1 hB1 hS => ⟨.slice (some ⟨w1.heap.size, 0, none⟩) 0 0, _, w1.alloc (.cells #[] 5), by go_simp, ⟨inferInstance, rfl⟩, ((hS.new hB1 5 #[]).rw_of_bk rfl (by unfold maxLen; decide)).assoc', (Below.refl B w1).alloc hB1 _⟩) ?_
            rintro v0 F0 _ rfl
            simp only [Act.put, List.setIfInBounds_toArray, List.set_cons_zero, List.set_cons_succ]
            refine tw_run (fun v F => F = (Rw 5 1 v r'.out.length (bytesV r'.out) * Rw 5 1 (.slice A' r'.out.length c') r'.out.length (bytesV r'.out))) rfl (fun R1 _ w1 hB1 hS => ?_) ?_
            · obtain ⟨v3, w3, hrun, o3, b3⟩ := append_two hB1 hS.assoc (by have := Hn.out; show 0 + _ ≤ _; omega)
              rw [List.nil_append] at o3
              exact ⟨v3, _, w3, exec_append (.tmp 35) (.tmp 37) 22 rfl rfl rfl hrun, ⟨inferInstance, rfl⟩, o3.assoc', b3⟩
            · rintro v3 F3 _ rfl
              exact tw_nil ⟨v0, v3, rfl, rfl⟩
          · simp only [opsOf, List.filterMap_cons, List.filterMap_nil, List.getElem?_toArray, List.getElem?_cons_succ, List.getElem?_cons_zero]
            refine tw_run (fun v F => F = Rw 5 1 v [r'.low / 16777216].length (bytesV [r'.low / 16777216])) rfl (fun R1 _ w1 hB1 hS => ⟨.slice (some ⟨w1.heap.size, 0, none⟩) 1 1, _, w1.alloc (.cells #[.int .u8 (r'.low / 16777216)] 5), by go_simp, ⟨inferInstance, rfl⟩, (hS.right.new hB1 5 #[.int .u8 (r'.low / 16777216)]).rw_of_bk rfl (by unfold maxLen; decide), (Below.refl B w1).alloc hB1 _⟩) ?_
            rintro v8 F8 _ rfl
            exact tw_nil ⟨v8, rfl, rfl⟩
          · rintro vs1 F1 vs2 F2 w4 ⟨v0, v3, rfl, rfl⟩ ⟨v8, rfl, rfl⟩ o4 b4
            simp only [opsOf, putAll, Act.put, List.filterMap_cons, List.filterMap_nil, List.getElem?_toArray, List.getElem?_cons_succ, List.getElem?_cons_zero, List.setIfInBounds_toArray, List.set_cons_zero, List.set_cons_succ]
            have B4 := Nat.le_trans Bw b4.size
            have o4 : Own B (Rw 5 1 v3 r'.out.length (bytesV r'.out) * (Rw 5 1 v8 [r'.low / 16777216].length (bytesV [r'.low / 16777216]) * (Bk w.heap.size 66 (xCells (.slice A' r'.out.length c') r') * (Bk (w.heap.size + 1) 66 #[.slice none 0 0, .int .i64 0, .int .i64 0] * R)))) w4 :=
              (o4.cast (show _ = Rw 5 1 (.slice A' r'.out.length c') r'.out.length (bytesV r'.out) * (Rw 5 1 v3 r'.out.length (bytesV r'.out) * (Rw 5 1 v8 [r'.low / 16777216].length (bytesV [r'.low / 16777216]) * (Bk w.heap.size 66 (xCells (.slice A' r'.out.length c') r') * (Bk (w.heap.size + 1) 66 #[.slice none 0 0, .int .i64 0, .int .i64 0] * R)))) by ac_rfl)).right
            obtain ⟨v9, w5, hrun, o5, b5⟩ := append_two B4 o4 (by have := Hn.out; show _ + 1 ≤ _; omega)
            have B5 := Nat.le_trans B4 b5.size
            obtain ⟨A9, c9, rfl⟩ : ∃ A c, v9 = .slice A (r'.out.length + 1) c := by obtain ⟨A, c, h⟩ := o5.row_n; exact ⟨A, c, by rw [h]; simp⟩
            refine wpList_append_run rfl (.tmp 38) (.tmp 43) 22 rfl rfl rfl hrun ?_
            simp only [Act.put, List.setIfInBounds_toArray, List.set_cons_zero, List.set_cons_succ]
            clear hrun c0 c1 c2
            have o6 : Own B (Bk w.heap.size 66 (xCells (.slice A' r'.out.length c') r') * (Bk (w.heap.size + 1) 66 #[.slice none 0 0, .int .i64 0, .int .i64 0] * (Rw 5 1 (.slice A9 (r'.out.length + 1) c9) (r'.out ++ [r'.low / 16777216]).length (bytesV (r'.out ++ [r'.low / 16777216])) * R))) w5 :=
              (o5.cast (show _ = Rw 5 1 v8 [r'.low / 16777216].length (bytesV [r'.low / 16777216]) * (Bk w.heap.size 66 (xCells (.slice A' r'.out.length c') r') * (Bk (w.heap.size + 1) 66 #[.slice none 0 0, .int .i64 0, .int .i64 0] * (Rw 5 1 (.slice A9 (r'.out.length + 1) c9) (r'.out ++ [r'.low / 16777216]).length (bytesV (r'.out ++ [r'.low / 16777216])) * R))) by ac_rfl)).right
            have c0 : w5.cell? ⟨w.heap.size, 0, none⟩ = some (.slice A' r'.out.length c') := o6.cell 0
            have c1 : w5.cell? ⟨w.heap.size, 1, none⟩ = some (.int .i64 r'.low) := o6.cell 1
            have c2 : w5.cell? ⟨w.heap.size, 2, none⟩ = some (.int .i64 r'.width) := o6.cell 2
            have z0 := o6.unfrozen 0
            have z1 := o6.unfrozen 1
            have z2 := o6.unfrozen 2
            have s0 := o6.set B5 0 (.slice A9 (r'.out.length + 1) c9)
            have s1 := s0.set (by simpa [World.setCell] using B5) 1 (.int .i64 (r'.low % 16777216 * 256))
            have s2 := s1.set (by simpa [World.setCell] using B5) 2 (.int .i64 (r'.width * 256))
            have d1 : (w5.setCell ⟨w.heap.size, 0, none⟩ (.slice A9 (r'.out.length + 1) c9)).cell? ⟨w.heap.size, 1, none⟩ = some (.int .i64 r'.low) := s0.cell 1
            have d2 : ((w5.setCell ⟨w.heap.size, 0, none⟩ (.slice A9 (r'.out.length + 1) c9)).setCell ⟨w.heap.size, 1, none⟩ (.int .i64 (r'.low % 16777216 * 256))).cell? ⟨w.heap.size, 2, none⟩ = some (.int .i64 r'.width) := s1.cell 2
            have t2 := (((b4.trans b5).trans (o6.below_set 0 (.slice A9 (r'.out.length + 1) c9))).trans (s0.below_set 1 (.int .i64 (r'.low % 16777216 * 256)))).trans (s1.below_set 2 (.int .i64 (r'.width * 256)))
            go_wp2
            go_roundg 0
            case measure => omega
            case rel =>
              have e9 : rnorm r' = ⟨r'.out ++ [r'.low / 16777216], r'.low % 16777216 * 256, r'.width * 256⟩ := by unfold rnorm; rw [if_pos hlt]
              refine ⟨.slice A9 (r'.out.length + 1) c9, rnorm r', ?_, hbb.trans t2, Lib.hid (.inr ⟨rfl, by rw [Hr'.out]; rfl, by rw [e9]; show 16777216 ≤ r'.width * 256; omega⟩)⟩
              rw [e9]
              exact s2
        · have hfin : r' = rput ⟨out, low, width⟩ bound bit := by
            rcases hk.out with ⟨_, h⟩ | ⟨_, h, _⟩
            · unfold rput rnorm; rw [← h, if_neg hlt]
            · exact h
          have q0 : wr.cell? ⟨w.heap.size + 1, 0, none⟩ = some (.slice none 0 0) := oY.cell 0
          have q1 : wr.cell? ⟨w.heap.size + 1, 1, none⟩ = some (.int .i64 0) := oY.cell 1
          have q2 : wr.cell? ⟨w.heap.size + 1, 2, none⟩ = some (.int .i64 0) := oY.cell 2
          have y0 := oY.unfrozen 0
          have y1 := oY.unfrozen 1
          have y2 := oY.unfrozen 2
          have s0 := oY.set Bw 0 (.slice A' r'.out.length c')
          have s1 := s0.set (by simpa [World.setCell] using Bw) 1 (.int .i64 r'.low)
          have s2 := s1.set (by simpa [World.setCell] using Bw) 2 (.int .i64 r'.width)
          have t2 := ((oY.below_set 0 (.slice A' r'.out.length c')).trans (s0.below_set 1 (.int .i64 r'.low))).trans (s1.below_set 2 (.int .i64 r'.width))
          have Hfin := Lib.hid hfin
          clear hfin hk
          go_wp2
          refine bodyPost_ret (results_cell_row rfl _ _ (w.heap.size + 1) 66 #[.slice A' r'.out.length c', .int .i64 r'.low, .int .i64 r'.width] (0, 0) _ rfl s2.bk.1 Try.underlying66 rfl (by kernel_rfl)) rfl ?_
          rw [← Hfin.out]
          exact ⟨.slice A' r'.out.length c', rfl, (s2.cast (show _ = Bk _ _ _ * (Bk _ _ _ * (Rw _ _ _ _ _ * R)) by ac_rfl)).right.right, hbb.trans t2⟩
    · have He1 : Hid ((⟨out, low + bound, width - bound⟩ : RW) = rcarry (rput1 ⟨out, low, width⟩ bound bit)) := Lib.hid (by unfold rcarry rput1; rw [if_neg hbit, if_neg (by show ¬ 4294967296 ≤ low + bound; omega)])
      have o4 := (HW.out (low + bound) (width - bound)).1
      have b4 := (HW.out (low + bound) (width - bound)).2
      go_wp2
      go_loopg [] 1 (fun k wr => ∃ (v' : Value) (r' : RW), Own B (Bk w.heap.size 66 (xCells v' r') * (Bk (w.heap.size + 1) 66 #[.slice none 0 0, .int .i64 0, .int .i64 0] * (Rw 5 1 v' r'.out.length (bytesV r'.out) * R))) wr ∧ Below B w wr ∧ Hid ((k = 1 ∧ r' = rcarry (rput1 ⟨out, low, width⟩ bound bit)) ∨ (k = 0 ∧ r' = rput ⟨out, low, width⟩ bound bit ∧ 16777216 ≤ r'.width)))
      case atStart => exact ⟨v, ⟨out, low + bound, width - bound⟩, o4, b4, Lib.hid (.inl ⟨rfl, He1.out⟩)⟩
      case round =>
        obtain ⟨v', r', ho, hbb, hk⟩ := hrel
        have Bw : B ≤ wr.heap.size := Nat.le_trans hB hbb.size
        obtain ⟨A', c', rfl⟩ := (ho.cast (show _ = Rw _ _ v' _ _ * (Bk _ _ (xCells v' r') * (Bk _ _ _ * R)) by ac_rfl)).row_n
        have c0 : wr.cell? ⟨w.heap.size, 0, none⟩ = some (.slice A' r'.out.length c') := ho.cell 0
        have c1 : wr.cell? ⟨w.heap.size, 1, none⟩ = some (.int .i64 r'.low) := ho.cell 1
        have c2 : wr.cell? ⟨w.heap.size, 2, none⟩ = some (.int .i64 r'.width) := ho.cell 2
        have oY := ho.cast (sep_left_comm _ _ _)
        by_cases hlt : r'.width < 16777216
        · have hk2 : gk = 1 ∧ r' = rcarry (rput1 ⟨out, low, width⟩ bound bit) := by
            rcases hk.out with h | ⟨_, _, h⟩
            · exact h
            · omega
          obtain ⟨rfl, hr'⟩ := hk2
          obtain ⟨p0, p1, p2, p3, p4⟩ := Hp.out
          rw [← hr'] at p0 p1 p2 p3 p4
          have Hr' := Lib.hid hr'
          have Hn := Lib.hid p4
          clear hr' hk p4
          go_wp2
          refine wp_region_ltwo (B := B) [1, 4] [2, 5, 6, 7] [0, 3] [8] [9, 10, 11] (Rw 5 1 (.slice A' r'.out.length c') r'.out.length (bytesV r'.out)) Emp (Bk w.heap.size 66 (xCells (.slice A' r'.out.length c') r') * (Bk (w.heap.size + 1) 66 #[.slice none 0 0, .int .i64 0, .int .i64 0] * R)) mixed (by kernel_rfl) rfl (fun _ _ _ _ _ h => h) Bw ((ho.emp.cast (by ac_rfl)).drew Bw) ?_
          simp only [List.filterMap_cons, List.filterMap_nil, List.getElem?_toArray, List.getElem?_cons_succ, List.getElem?_cons_zero]
          repeat (
            refine free_val ?_ rfl (fun w1 => ?_) ?_
            rotate_left
            · (go_simp
               try go_bits
               rfl)
            simp only [Act.put, List.setIfInBounds_toArray, List.set_cons_zero, List.set_cons_succ])
          refine free_nil ?_
          repeat (first
            | (refine late_val ?_ rfl (fun w1 hS => ?_) ?_
               rotate_left
               · (have c0 : w1.cell? ⟨w.heap.size, 0, none⟩ = some (.slice A' r'.out.length c') := hS.cell 0; have c1 : w1.cell? ⟨w.heap.size, 1, none⟩ = some (.int .i64 r'.low) := hS.cell 1
                  go_simp
                  try go_bits
                  rfl)
               simp only [Act.put, List.setIfInBounds_toArray, List.set_cons_zero, List.set_cons_succ])
            | (refine late_off rfl ?_
               simp only [Act.put, List.setIfInBounds_toArray, List.set_cons_zero, List.set_cons_succ]))
          refine late_nil ?_
          refine ⟨fun vs F => ∃ v0 v3, vs = [v0, v3] ∧ F = (Rw 5 1 v3 r'.out.length (bytesV r'.out) * Rw 5 1 (.slice A' r'.out.length c') r'.out.length (bytesV r'.out)), fun vs F => ∃ v8, vs = [v8] ∧ F = Rw 5 1 v8 [r'.low / 16777216].length (bytesV [r'.low / 16777216]), ?_, ?_, ?_⟩
          · simp only [opsOf, List.filterMap_cons, List.filterMap_nil, List.getElem?_toArray, List.getElem?_cons_succ, List.getElem?_cons_zero]
            refine tw_run (fun v F => F = (Rw 5 1 v ([] : List Int).length (bytesV []) * Rw 5 1 (.slice A' r'.out.length c') r'.out.length (bytesV r'.out))) rfl (fun R1 _ w1 hB1 hS => ⟨.slice (some ⟨w1.heap.size, 0, none⟩) 0 0, _, w1.alloc (.cells #[] 5), by go_simp, ⟨inferInstance, rfl⟩, ((hS.new hB1 5 #[]).rw_of_bk rfl (by unfold maxLen; decide)).assoc', (Below.refl B w1).alloc hB1 _⟩) ?_
            rintro v0 F0 _ rfl
            simp only [Act.put, List.setIfInBounds_toArray, List.set_cons_zero, List.set_cons_succ]
            refine tw_run (fun v F => F = (Rw 5 1 v r'.out.length (bytesV r'.out) * Rw 5 1 (.slice A' r'.out.length c') r'.out.length (bytesV r'.out))) rfl (fun R1 _ w1 hB1 hS => ?_) ?_
            · obtain ⟨v3, w3, hrun, o3, b3⟩ := append_two hB1 hS.assoc (by have := Hn.out; show 0 + _ ≤ _; omega)
              rw [List.nil_append] at o3
              exact ⟨v3, _, w3, exec_append (.tmp 35) (.tmp 37) 22 rfl rfl rfl hrun, ⟨inferInstance, rfl⟩, o3.assoc', b3⟩
            · rintro v3 F3 _ rfl
              exact tw_nil ⟨v0, v3, rfl, rfl⟩
          · simp only [opsOf, List.filterMap_cons, List.filterMap_nil, List.getElem?_toArray, List.getElem?_cons_succ, List.getElem?_cons_zero]
            refine tw_run (fun v F => F = Rw 5 1 v [r'.low / 16777216].length (bytesV [r'.low / 16777216])) rfl (fun R1 _ w1 hB1 hS => ⟨.slice (some ⟨w1.heap.size, 0, none⟩) 1 1, _, w1.alloc (.cells #[.int .u8 (r'.low / 16777216)] 5), by go_simp, ⟨inferInstance, rfl⟩, (hS.right.new hB1 5 #[.int .u8 (r'.low / 16777216)]).rw_of_bk rfl (by unfold maxLen; decide), (Below.refl B w1).alloc hB1 _⟩) ?_
            rintro v8 F8 _ rfl
            exact tw_nil ⟨v8, rfl, rfl⟩
          · rintro vs1 F1 vs2 F2 w4 ⟨v0, v3, rfl, rfl⟩ ⟨v8, rfl, rfl⟩ o4 b4
            simp only [opsOf, putAll, Act.put, List.filterMap_cons, List.filterMap_nil, List.getElem?_toArray, List.getElem?_cons_succ, List.getElem?_cons_zero, List.setIfInBounds_toArray, List.set_cons_zero, List.set_cons_succ]
            have B4 := Nat.le_trans Bw b4.size
            have o4 : Own B (Rw 5 1 v3 r'.out.length (bytesV r'.out) * (Rw 5 1 v8 [r'.low / 16777216].length (bytesV [r'.low / 16777216]) * (Bk w.heap.size 66 (xCells (.slice A' r'.out.length c') r') * (Bk (w.heap.size + 1) 66 #[.slice none 0 0, .int .i64 0, .int .i64 0] * R)))) w4 :=
              (o4.cast (show _ = Rw 5 1 (.slice A' r'.out.length c') r'.out.length (bytesV r'.out) * (Rw 5 1 v3 r'.out.length (bytesV r'.out) * (Rw 5 1 v8 [r'.low / 16777216].length (bytesV [r'.low / 16777216]) * (Bk w.heap.size 66 (xCells (.slice A' r'.out.length c') r') * (Bk (w.heap.size + 1) 66 #[.slice none 0 0, .int .i64 0, .int .i64 0] * R)))) by ac_rfl)).right
            obtain ⟨v9, w5, hrun, o5, b5⟩ := append_two B4 o4 (by have := Hn.out; show _ + 1 ≤ _; omega)
            have B5 := Nat.le_trans B4 b5.size
            obtain ⟨A9, c9, rfl⟩ : ∃ A c, v9 = .slice A (r'.out.length + 1) c := by obtain ⟨A, c, h⟩ := o5.row_n; exact ⟨A, c, by rw [h]; simp⟩
            refine wpList_append_run rfl (.tmp 38) (.tmp 43) 22 rfl rfl rfl hrun ?_
            simp only [Act.put, List.setIfInBounds_toArray, List.set_cons_zero, List.set_cons_succ]
            clear hrun c0 c1 c2
            have o6 : Own B (Bk w.heap.size 66 (xCells (.slice A' r'.out.length c') r') * (Bk (w.heap.size + 1) 66 #[.slice none 0 0, .int .i64 0, .int .i64 0] * (Rw 5 1 (.slice A9 (r'.out.length + 1) c9) (r'.out ++ [r'.low / 16777216]).length (bytesV (r'.out ++ [r'.low / 16777216])) * R))) w5 :=
              (o5.cast (show _ = Rw 5 1 v8 [r'.low / 16777216].length (bytesV [r'.low / 16777216]) * (Bk w.heap.size 66 (xCells (.slice A' r'.out.length c') r') * (Bk (w.heap.size + 1) 66 #[.slice none 0 0, .int .i64 0, .int .i64 0] * (Rw 5 1 (.slice A9 (r'.out.length + 1) c9) (r'.out ++ [r'.low / 16777216]).length (bytesV (r'.out ++ [r'.low / 16777216])) * R))) by ac_rfl)).right
            have c0 : w5.cell? ⟨w.heap.size, 0, none⟩ = some (.slice A' r'.out.length c') := o6.cell 0
            have c1 : w5.cell? ⟨w.heap.size, 1, none⟩ = some (.int .i64 r'.low) := o6.cell 1
            have c2 : w5.cell? ⟨w.heap.size, 2, none⟩ = some (.int .i64 r'.width) := o6.cell 2
            have z0 := o6.unfrozen 0
            have z1 := o6.unfrozen 1
            have z2 := o6.unfrozen 2
            have s0 := o6.set B5 0 (.slice A9 (r'.out.length + 1) c9)
            have s1 := s0.set (by simpa [World.setCell] using B5) 1 (.int .i64 (r'.low % 16777216 * 256))
            have s2 := s1.set (by simpa [World.setCell] using B5) 2 (.int .i64 (r'.width * 256))
            have d1 : (w5.setCell ⟨w.heap.size, 0, none⟩ (.slice A9 (r'.out.length + 1) c9)).cell? ⟨w.heap.size, 1, none⟩ = some (.int .i64 r'.low) := s0.cell 1
            have d2 : ((w5.setCell ⟨w.heap.size, 0, none⟩ (.slice A9 (r'.out.length + 1) c9)).setCell ⟨w.heap.size, 1, none⟩ (.int .i64 (r'.low % 16777216 * 256))).cell? ⟨w.heap.size, 2, none⟩ = some (.int .i64 r'.width) := s1.cell 2
            have t2 := (((b4.trans b5).trans (o6.below_set 0 (.slice A9 (r'.out.length + 1) c9))).trans (s0.below_set 1 (.int .i64 (r'.low % 16777216 * 256)))).trans (s1.below_set 2 (.int .i64 (r'.width * 256)))
            go_wp2
            go_roundg 0
            case measure => omega
            case rel =>
              have e9 : rnorm r' = ⟨r'.out ++ [r'.low / 16777216], r'.low % 16777216 * 256, r'.width * 256⟩ := by unfold rnorm; rw [if_pos hlt]
              refine ⟨.slice A9 (r'.out.length + 1) c9, rnorm r', ?_, hbb.trans t2, Lib.hid (.inr ⟨rfl, by rw [Hr'.out]; rfl, by rw [e9]; show 16777216 ≤ r'.width * 256; omega⟩)⟩
              rw [e9]
              exact s2
        · have hfin : r' = rput ⟨out, low, width⟩ bound bit := by
            rcases hk.out with ⟨_, h⟩ | ⟨_, h, _⟩
            · unfold rput rnorm; rw [← h, if_neg hlt]
            · exact h
          have q0 : wr.cell? ⟨w.heap.size + 1, 0, none⟩ = some (.slice none 0 0) := oY.cell 0
          have q1 : wr.cell? ⟨w.heap.size + 1, 1, none⟩ = some (.int .i64 0) := oY.cell 1
          have q2 : wr.cell? ⟨w.heap.size + 1, 2, none⟩ = some (.int .i64 0) := oY.cell 2
          have y0 := oY.unfrozen 0
          have y1 := oY.unfrozen 1
          have y2 := oY.unfrozen 2
          have s0 := oY.set Bw 0 (.slice A' r'.out.length c')
          have s1 := s0.set (by simpa [World.setCell] using Bw) 1 (.int .i64 r'.low)
          have s2 := s1.set (by simpa [World.setCell] using Bw) 2 (.int .i64 r'.width)
          have t2 := ((oY.below_set 0 (.slice A' r'.out.length c')).trans (s0.below_set 1 (.int .i64 r'.low))).trans (s1.below_set 2 (.int .i64 r'.width))
          have Hfin := Lib.hid hfin
          clear hfin hk
          go_wp2
          refine bodyPost_ret (results_cell_row rfl _ _ (w.heap.size + 1) 66 #[.slice A' r'.out.length c', .int .i64 r'.low, .int .i64 r'.width] (0, 0) _ rfl s2.bk.1 Try.underlying66 rfl (by kernel_rfl)) rfl ?_
          rw [← Hfin.out]
          exact ⟨.slice A' r'.out.length c', rfl, (s2.cast (show _ = Bk _ _ _ * (Bk _ _ _ * (Rw _ _ _ _ _ * R)) by ac_rfl)).right.right, hbb.trans t2⟩
end Go.Proofs.Ytedcficjmogohaa

/- What a reader keeps, whatever is taken: plain laws of its states. -/
namespace Go.Proofs.Ytedcficjmogohaa
set_option linter.unusedVariables false
set_option linter.unusedSimpArgs false
set_option maxRecDepth 100000
open Go.RowKit

/-- What is read of L bytes: no more is left than may be; what is missing is told. -/
structure RS.raw (L : Nat) (s : RS) : Prop where
  live : s.live
  left : s.rem.length ≤ L - 4
  err : s.e = 0 ∨ s.e = 2 ∧ s.rem = []
  short : L < 4 → s.e = 2

theorem nextS_raw {L : Nat} {s : RS} (h0 : s.rem.length ≤ L - 4) (h1 : s.e = 0 ∨ s.e = 2 ∧ s.rem = []) (h2 : L < 4 → s.e = 2) :
    (nextS s).rem.length ≤ L - 4 ∧ ((nextS s).e = 0 ∨ (nextS s).e = 2 ∧ (nextS s).rem = []) ∧ (L < 4 → (nextS s).e = 2) := by
  obtain ⟨rem, n, width, e⟩ := s
  cases rem with
  | nil => exact ⟨by simp [nextS], Or.inr ⟨rfl, rfl⟩, fun _ => rfl⟩
  | cons c l =>
    simp at h0 h1 h2
    refine ⟨by show l.length ≤ _; omega, Or.inl h1, h2⟩

theorem takeS_raw {L : Nat} {s : RS} {bound : Int} (h : s.raw L) (b0 : 65536 ≤ bound) (b1 : bound + 65536 ≤ s.width) : (takeS s bound).raw L := by
  have hl := takeS_live h.live b0 b1
  have e1 : (takeT s bound).rem = s.rem := by unfold takeT; split <;> rfl
  have e2 : (takeT s bound).e = s.e := by unfold takeT; split <;> rfl
  unfold takeS at hl ⊢
  split at hl <;> rename_i hw
  · obtain ⟨a, b, c⟩ := nextS_raw (L := L) (s := { takeT s bound with width := (takeT s bound).width * 256 }) (by show (takeT s bound).rem.length ≤ _; rw [e1]; exact h.left) (by show (takeT s bound).e = 0 ∨ (takeT s bound).e = 2 ∧ (takeT s bound).rem = []; rw [e1, e2]; exact h.err) (by show L < 4 → (takeT s bound).e = 2; rw [e2]; exact h.short)
    rw [if_pos hw]
    exact ⟨hl, a, b, c⟩
  · rw [if_neg hw]
    exact ⟨hl, by rw [e1]; exact h.left, by rw [e1, e2]; exact h.err, by rw [e2]; exact h.short⟩

theorem evenBound_in {s : RS} (h : s.live) : 65536 ≤ s.width / 2 ∧ s.width / 2 + 65536 ≤ s.width := by
  have := h.wide
  omega

theorem rEven_raw {L : Nat} : ∀ (k : Nat) (s : RS) (a : Nat), s.raw L → (rEven k s a).2.raw L
  | 0, _, _, h => h
  | k + 1, s, a, h => rEven_raw k _ _ (takeS_raw h (evenBound_in h.live).1 (evenBound_in h.live).2)
theorem rEven_lt : ∀ (k : Nat) (s : RS) (a : Nat), (rEven k s a).1 < (a + 1) * 2 ^ k
  | 0, s, a => by simp [rEven]
  | k + 1, s, a => by
    have ih := rEven_lt k (takeS s (s.width / 2)) (2 * a + (takeBit s (s.width / 2)).toNat)
    have h1 := takeBit_01 s (s.width / 2)
    have h2 : (takeBit s (s.width / 2)).toNat ≤ 1 := by omega
    have e2 : (a + 1) * 2 ^ (k + 1) = (2 * a + 2) * 2 ^ k := by rw [Nat.pow_succ, show 2 * a + 2 = (a + 1) * 2 by omega, Nat.mul_assoc, Nat.mul_comm 2 (2 ^ k)]
    rw [e2]
    exact Nat.lt_of_lt_of_le ih (Nat.mul_le_mul_right _ (by omega))
theorem rTree_raw {L : Nat} : ∀ (k : Nat) (s : RS) (cl : List Int) (a : Nat), s.raw L → chOk cl → (rTree k s cl a).2.1.raw L ∧ chOk (rTree k s cl a).2.2 ∧ (rTree k s cl a).2.2.length = cl.length
  | 0, _, _, _, h, hc => ⟨h, hc, rfl⟩
  | k + 1, s, cl, a, h, hc => by
    have hb := rBound_in h.live (chOk_get hc a)
    have h1 := takeS_raw h hb.1 hb.2
    have h2 : chOk (cl.set a (sawN (cl.getD a 0) (takeBit s (rBound s (cl.getD a 0))))) := chOk_set hc _ _ (sawN_ok _ _ (chOk_get hc a))
    obtain ⟨x, y, z⟩ := rTree_raw (L := L) k _ _ (2 * a + (takeBit s (rBound s (cl.getD a 0))).toNat) h1 h2
    exact ⟨x, y, by rw [show rTree (k + 1) s cl a = rTree k _ _ _ from rfl, z]; simp⟩

theorem openS_width (l : List Int) : (openS l).width = 4294967295 := by
  show (nextS (nextS (nextS (nextS (open0 l))))).width = _
  simp only [nextS_width]
  rfl
theorem openS_live {l : List Int} (hb : bytesOk l) : (openS l).live := by
  refine ⟨nextN_ok 4 _ ⟨hb, by show (0 : Int) ≤ 0; omega, by show (0 : Int) < 18446744073709551616; omega, by show (0 : Int) ≤ 4294967295; omega, by show (4294967295 : Int) < 4294967296; omega⟩, ?_⟩
  rw [openS_width]; decide
theorem openS_raw {l : List Int} (hb : bytesOk l) : (openS l).raw l.length := by
  refine ⟨openS_live hb, ?_, ?_, ?_⟩ <;>
  · match l with
    | [] => simp [openS, nextN, nextS, open0]
    | [a] => simp [openS, nextN, nextS, open0]
    | [a, b] => simp [openS, nextN, nextS, open0]
    | [a, b, c] => simp [openS, nextN, nextS, open0]
    | a :: b :: c :: d :: t => simp [openS, nextN, nextS, open0]
end Go.Proofs.Ytedcficjmogohaa

/- What was put is taken: plain laws of the writer's and the reader's states. -/
namespace Go.Proofs.Ytedcficjmogohaa
set_option linter.unusedVariables false
set_option linter.unusedSimpArgs false
set_option maxRecDepth 100000
open Go.RowKit

/-! bytes as a number -/
def numR : List Int → Int
  | [] => 0
  | c :: l => c + 256 * numR l
def num (l : List Int) : Int := numR l.reverse
theorem numR_append : ∀ a b : List Int, numR (a ++ b) = numR a + 256 ^ a.length * numR b
  | [], b => by simp [numR]
  | c :: a, b => by
    show c + 256 * numR (a ++ b) = c + 256 * numR a + 256 ^ (a.length + 1) * numR b
    rw [numR_append a b, Int.pow_succ, Int.mul_add, Int.mul_comm (256 ^ a.length) 256, Int.mul_assoc]
    omega
theorem num_append (a b : List Int) : num (a ++ b) = num a * 256 ^ b.length + num b := by
  unfold num
  rw [List.reverse_append, numR_append, List.length_reverse, Int.mul_comm]
  omega
theorem num_snoc (a : List Int) (c : Int) : num (a ++ [c]) = num a * 256 + c := by
  rw [num_append, show num [c] = c by show c + 256 * 0 = c; omega, show (256 : Int) ^ [c].length = 256 from rfl]
theorem p256 : ∀ n : Nat, (1 : Int) ≤ 256 ^ n
  | 0 => by rw [Int.pow_zero]; omega
  | n + 1 => by rw [Int.pow_succ]; have := p256 n; omega
theorem numR_range : ∀ l : List Int, bytesOk l → 0 ≤ numR l ∧ numR l < 256 ^ l.length
  | [], _ => by simp [numR]
  | c :: l, h => by
    have hc := h c List.mem_cons_self
    have ih := numR_range l (fun x hx => h x (List.mem_cons_of_mem _ hx))
    show 0 ≤ c + 256 * numR l ∧ c + 256 * numR l < 256 ^ (l.length + 1)
    rw [Int.pow_succ]
    generalize (256 : Int) ^ l.length = P at ih
    omega
theorem bytesOk_rev {l : List Int} (h : bytesOk l) : bytesOk l.reverse := fun x hx => h x (List.mem_reverse.1 hx)
theorem num_range {l : List Int} (h : bytesOk l) : 0 ≤ num l ∧ num l < 256 ^ l.length := by
  have := numR_range l.reverse (bytesOk_rev h)
  rwa [List.length_reverse] at this
theorem numR_carry : ∀ l : List Int, bytesOk l → numR (carryR l) = numR l + 1 ∨ numR l + 1 = 256 ^ l.length
  | [], _ => by right; simp [numR]
  | c :: l, h => by
    have ih := numR_carry l (fun x hx => h x (List.mem_cons_of_mem _ hx))
    unfold carryR
    split
    · rename_i hc
      subst hc
      show (0 + 256 * numR (carryR l) = 255 + 256 * numR l + 1) ∨ (255 + 256 * numR l + 1 = 256 ^ (l.length + 1))
      rw [Int.pow_succ]
      generalize (256 : Int) ^ l.length = P at ih
      omega
    · left
      show c + 1 + 256 * numR l = c + 256 * numR l + 1
      omega
theorem num_carry {l : List Int} (h : bytesOk l) (hn : num l + 1 < 256 ^ l.length) : num (carryL l) = num l + 1 := by
  unfold num carryL
  rw [List.reverse_reverse]
  rcases numR_carry l.reverse (bytesOk_rev h) with h1 | h1
  · exact h1
  · rw [List.length_reverse] at h1
    unfold num at hn
    omega

/-! the place of a state among all numbers -/
def Lr (r : RW) : Int := num r.out * 4294967296 + r.low
structure RW.good (r : RW) (room : Int) : Prop where
  ok : r.ok room
  fit : Lr r + r.width ≤ 256 ^ (r.out.length + 4)
theorem p256_4 (n : Nat) : (256 : Int) ^ (n + 4) = 256 ^ n * 4294967296 := by
  rw [Int.pow_succ, Int.pow_succ, Int.pow_succ, Int.pow_succ, Int.mul_assoc, Int.mul_assoc, Int.mul_assoc]
  rfl

/-- The end's number lies where the state says. -/
def Pt (r rT : RW) : Prop := ∃ d : Nat, rT.out.length = r.out.length + d ∧ Lr r * 256 ^ d ≤ Lr rT ∧ Lr rT < (Lr r + r.width) * 256 ^ d
theorem Pt.self {r : RW} (h : 0 < r.width) : Pt r r := ⟨0, rfl, by simp, by simp; omega⟩

theorem mid_parts {r : RW} {b : Int} (bit : Int) {room : Int} (g : r.good (room + 1)) (b0 : 65536 ≤ b) (b1 : b + 65536 ≤ r.width) :
    Lr (rcarry (rput1 r b bit)) = (if bit = 0 then Lr r else Lr r + b) ∧ (rcarry (rput1 r b bit)).width = (if bit = 0 then b else r.width - b) ∧ (rcarry (rput1 r b bit)).out.length = r.out.length := by
  obtain ⟨⟨ob, ol, l0, l1, w0, w1, sm⟩, fit⟩ := g
  obtain ⟨out, low, width⟩ := r
  simp only [Lr] at *
  rw [p256_4] at fit
  by_cases hbit : bit = 0
  · rw [if_pos hbit, if_pos hbit]
    have e : rcarry (rput1 ⟨out, low, width⟩ b bit) = ⟨out, low, b⟩ := by unfold rcarry rput1; rw [if_pos hbit, if_neg (by show ¬ 4294967296 ≤ low; omega)]
    rw [e]
    exact ⟨rfl, rfl, rfl⟩
  · rw [if_neg hbit, if_neg hbit]
    by_cases hcar : 4294967296 ≤ low + b
    · have e : rcarry (rput1 ⟨out, low, width⟩ b bit) = ⟨carryL out, low + b - 4294967296, width - b⟩ := by unfold rcarry rput1; rw [if_neg hbit, if_pos (by show 4294967296 ≤ low + b; omega)]
      rw [e]
      have hc := num_carry ob (by generalize (256 : Int) ^ out.length = P at fit ⊢; omega)
      refine ⟨?_, rfl, carryL_len out⟩
      show num (carryL out) * 4294967296 + (low + b - 4294967296) = _
      rw [hc]
      omega
    · have e : rcarry (rput1 ⟨out, low, width⟩ b bit) = ⟨out, low + b, width - b⟩ := by unfold rcarry rput1; rw [if_neg hbit, if_neg (by show ¬ 4294967296 ≤ low + b; omega)]
      rw [e]
      refine ⟨?_, rfl, rfl⟩
      show num out * 4294967296 + (low + b) = _
      omega

theorem norm_parts {r : RW} (h0 : 0 ≤ r.low) : (r.width < 16777216 → Lr (rnorm r) = Lr r * 256 ∧ (rnorm r).width = r.width * 256 ∧ (rnorm r).out.length = r.out.length + 1) ∧ (¬ r.width < 16777216 → rnorm r = r) := by
  constructor
  · intro h
    unfold rnorm
    rw [if_pos h]
    refine ⟨?_, rfl, by simp⟩
    show num (r.out ++ [r.low / 16777216]) * 4294967296 + r.low % 16777216 * 256 = (num r.out * 4294967296 + r.low) * 256
    rw [num_snoc]
    omega
  · intro h
    unfold rnorm
    rw [if_neg h]

theorem put_good {r : RW} {b : Int} (bit : Int) {room : Int} (g : r.good (room + 1)) (b0 : 65536 ≤ b) (b1 : b + 65536 ≤ r.width) : (rput r b bit).good room := by
  refine ⟨(rput_ok bit g.ok b0 b1).1, ?_⟩
  obtain ⟨m1, m2, m3⟩ := mid_parts bit g b0 b1
  have hf := (rput1_facts bit g.ok b0 b1).1.low0
  have fit := g.fit
  have hle : Lr (rcarry (rput1 r b bit)) + (rcarry (rput1 r b bit)).width ≤ 256 ^ (r.out.length + 4) := by
    rw [m1, m2]
    split <;> omega
  obtain ⟨n1, n2⟩ := norm_parts hf
  unfold rput
  by_cases hw : (rcarry (rput1 r b bit)).width < 16777216
  · obtain ⟨e1, e2, e3⟩ := n1 hw
    rw [e1, e2, e3, m3, show r.out.length + 1 + 4 = (r.out.length + 4) + 1 by omega, Int.pow_succ]
    generalize (256 : Int) ^ (r.out.length + 4) = P at hle
    omega
  · rw [n2 hw, m3]
    exact hle

/-- Behind a bit: where the end's number lies ahead of it, and on which side. -/
theorem pt_mid {r rT : RW} {b : Int} (bit : Int) {room : Int} (g : r.good (room + 1)) (b0 : 65536 ≤ b) (b1 : b + 65536 ≤ r.width) (h : Pt (rput r b bit) rT) :
    ∃ d : Nat, rT.out.length = r.out.length + d ∧ Lr (rcarry (rput1 r b bit)) * 256 ^ d ≤ Lr rT ∧ Lr rT < (Lr (rcarry (rput1 r b bit)) + (rcarry (rput1 r b bit)).width) * 256 ^ d ∧ ((rcarry (rput1 r b bit)).width < 16777216 → 0 < d) := by
  obtain ⟨m1, m2, m3⟩ := mid_parts bit g b0 b1
  have hf := (rput1_facts bit g.ok b0 b1).1.low0
  obtain ⟨n1, n2⟩ := norm_parts hf
  obtain ⟨d, hd, h1, h2⟩ := h
  unfold rput at hd h1 h2
  by_cases hw : (rcarry (rput1 r b bit)).width < 16777216
  · obtain ⟨e1, e2, e3⟩ := n1 hw
    rw [e3, m3] at hd
    rw [e1] at h1
    rw [e1, e2, ← Int.add_mul] at h2
    refine ⟨d + 1, by omega, ?_, ?_, fun _ => by omega⟩
    · rw [Int.pow_succ, Int.mul_comm (256 ^ d) 256, ← Int.mul_assoc]; exact h1
    · rw [Int.pow_succ, Int.mul_comm (256 ^ d) 256, ← Int.mul_assoc]; exact h2
  · rw [n2 hw] at hd h1 h2
    rw [m3] at hd
    exact ⟨d, hd, h1, h2, fun h => absurd h hw⟩
theorem pt_back {r rT : RW} {b : Int} (bit : Int) {room : Int} (g : r.good (room + 1)) (b0 : 65536 ≤ b) (b1 : b + 65536 ≤ r.width) (h : Pt (rput r b bit) rT) : Pt r rT := by
  obtain ⟨d, hd, h1, h2, _⟩ := pt_mid bit g b0 b1 h
  obtain ⟨m1, m2, m3⟩ := mid_parts bit g b0 b1
  have hp := p256 d
  refine ⟨d, hd, ?_, ?_⟩
  · refine Int.le_trans (Int.mul_le_mul_of_nonneg_right ?_ (by omega)) h1
    rw [m1]; split <;> omega
  · refine Int.lt_of_lt_of_le h2 (Int.mul_le_mul_of_nonneg_right ?_ (by omega))
    rw [m1, m2]; split <;> omega

/-- A reader stands where the writer stood. -/
structure Dec (r : RW) (q : RS) (fb : List Int) : Prop where
  pre : ∃ pre, fb = pre ++ q.rem ∧ pre.length = r.out.length + 4 ∧ num pre = Lr r + q.n
  width : q.width = r.width
  e : q.e = 0
  live : q.live

theorem num_rend {rT : RW} (h0 : 0 ≤ rT.low) (h1 : rT.low < 4294967296) : num (rend rT) = Lr rT := by
  unfold rend Lr
  rw [num_append]
  have : num [rT.low / 16777216, rT.low / 65536 % 256, rT.low / 256 % 256, rT.low % 256] = rT.low := by
    show rT.low % 256 + 256 * (rT.low / 256 % 256 + 256 * (rT.low / 65536 % 256 + 256 * (rT.low / 16777216 + 256 * 0))) = rT.low
    omega
  rw [this]
  show num rT.out * (256 : Int) ^ 4 + rT.low = _
  rw [show (256 : Int) ^ 4 = 4294967296 by decide]

theorem dec_step {r rT : RW} {q : RS} {b bit : Int} {room roomT : Int} (g : r.good (room + 1)) (gT : rT.ok roomT) (b0 : 65536 ≤ b) (b1 : b + 65536 ≤ r.width) (hbit : bit = 0 ∨ bit = 1) (hp : Pt (rput r b bit) rT) (hd : Dec r q (rend rT)) :
    takeBit q b = bit ∧ Dec (rput r b bit) (takeS q b) (rend rT) := by
  obtain ⟨d, hdl, p1, p2, p3⟩ := pt_mid bit g b0 b1 hp
  obtain ⟨m1, m2, m3⟩ := mid_parts bit g b0 b1
  have hf := (rput1_facts bit g.ok b0 b1).1.low0
  obtain ⟨n1, n2⟩ := norm_parts hf
  obtain ⟨⟨pre, e1, e2, e3⟩, hw, he, hl⟩ := hd
  have hnum := num_rend gT.low0 gT.low1
  have hlen : (rend rT).length = rT.out.length + 4 := by simp [rend]
  have hrem : q.rem.length = d := by
    rw [e1, List.length_append] at hlen
    omega
  have hrb := num_range (l := q.rem) hl.ok.bytes
  rw [e1, num_append, hrem] at hnum
  rw [hrem] at hrb
  have hq := p256 d
  generalize hQ : (256 : Int) ^ d = Q at *
  have hlow : ∀ x : Int, x * Q ≤ Lr rT → x ≤ num pre := fun x hx => by
    by_cases h : x ≤ num pre
    · exact h
    · have := Int.mul_le_mul_of_nonneg_right (show num pre + 1 ≤ x by omega) (show 0 ≤ Q by omega)
      rw [Int.add_mul] at this
      omega
  have hupp : ∀ x : Int, Lr rT < x * Q → num pre < x := fun x hx => by
    by_cases h : num pre < x
    · exact h
    · have := Int.mul_le_mul_of_nonneg_right (show x ≤ num pre by omega) (show 0 ≤ Q by omega)
      omega
  have k1 := hlow _ p1
  have k2 := hupp _ p2
  have hbitq : takeBit q b = bit := by
    unfold takeBit
    rw [m1, m2] at k2
    rw [m1] at k1
    rcases hbit with rfl | rfl
    · simp only [if_true] at k2
      rw [if_pos (by omega)]
    · rw [if_neg (by decide)] at k1
      rw [if_neg (by omega)]
  refine ⟨hbitq, ?_⟩
  have hlive : (takeS q b).live := takeS_live hl b0 (by rw [hw]; exact b1)
  have t1 : (takeT q b).width = (rcarry (rput1 r b bit)).width ∧ num pre = Lr (rcarry (rput1 r b bit)) + (takeT q b).n ∧ (takeT q b).rem = q.rem ∧ (takeT q b).e = q.e := by
    unfold takeBit at hbitq
    unfold takeT
    rw [m1, m2]
    rcases hbit with rfl | rfl
    · split at hbitq
      · rename_i h
        rw [if_pos h, if_pos rfl, if_pos rfl]
        exact ⟨rfl, e3, rfl, rfl⟩
      · cases hbitq
    · split at hbitq
      · cases hbitq
      · rename_i h
        rw [if_neg h, if_neg (by decide), if_neg (by decide)]
        exact ⟨by show q.width - b = _; rw [hw], by show num pre = Lr r + b + (q.n - b); omega, rfl, rfl⟩
  obtain ⟨t1, t2, t3, t4⟩ := t1
  unfold takeS at hlive ⊢
  unfold rput
  by_cases hsm : (rcarry (rput1 r b bit)).width < 16777216
  · obtain ⟨x1, x2, x3⟩ := n1 hsm
    rw [if_pos (by rw [t1]; exact hsm)] at hlive ⊢
    have hd0 := p3 hsm
    obtain ⟨c, rem', hc⟩ : ∃ c rem', q.rem = c :: rem' := by
      cases hr : q.rem with
      | nil => rw [hr] at hrem; simp at hrem; omega
      | cons c l => exact ⟨c, l, rfl⟩
    have hn0 : 0 ≤ (takeT q b).n := by omega
    have htk : tkN q b = { takeT q b with width := (takeT q b).width * 256, rem := rem', n := (takeT q b).n * 256 % 18446744073709551616 + c } := by
      unfold tkN nextS
      show (match (takeT q b).rem with | [] => _ | c :: l => _) = _
      rw [t3, hc]
    rw [htk] at hlive ⊢
    refine ⟨⟨pre ++ [c], by rw [e1, hc]; simp, by rw [List.length_append, x3, m3, e2]; show r.out.length + 4 + 1 = _; omega, ?_⟩, by rw [x2, ← t1], by show (takeT q b).e = 0; rw [t4]; exact he, hlive⟩
    rw [num_snoc, x1]
    show num pre * 256 + c = _ + ((takeT q b).n * 256 % 18446744073709551616 + c)
    rw [Int.emod_eq_of_lt (by omega) (by omega)]
    omega
  · rw [n2 hsm]
    rw [if_neg (by rw [t1]; exact hsm)] at hlive ⊢
    exact ⟨⟨pre, by rw [t3]; exact e1, by rw [m3]; exact e2, t2⟩, t1, by rw [t4]; exact he, hlive⟩
end Go.Proofs.Ytedcficjmogohaa

/- The arguments of a law, as its walk wants them. -/
namespace Go.Proofs.Ytedcficjmogohaa
set_option linter.unusedVariables false
set_option linter.unusedSimpArgs false
set_option maxRecDepth 100000
open Go.RowKit Go.Deep Go.ChangeShapes Go.WideShapes

section
variable {H : Type} {enc : TypeId × Value → H} {P : Program} {W : World} {base : Nat} {spare : Nat → Bool} {held : Bool}

/-- A slice of one-cell elements that came in, by what each element's own reading gives. -/
theorem rd_slice1 {α : Type} [Inhabited α] (f : α → Value) (ok : α → Prop) {t e : TypeId} {v : Value} {d : DataW H} {p : List MemPlace} (ht : P.underlying t = some (.slice e)) (hC : P.cellsOf e = 1)
    (hel : ∀ (fuel : Nat) (u : Value) (y : DataW H × List MemPlace), DataW.trod enc P W base spare held fuel e [u] = some y → ∃ a, u = f a ∧ ok a)
    (hv : ∃ A n c, v = .slice A n c) (h : DataW.Trod enc P W base spare held t v d p) : ∃ (A : Option Addr) (l : List α) (c : Nat), v = .slice A l.length c ∧ Rd W v (l.map f) ∧ l.length ≤ c ∧ c ≤ maxLen ∧ ∀ a ∈ l, ok a := by
  obtain ⟨A, n, c, rfl⟩ := hv
  obtain ⟨fuel, hf⟩ := h
  rcases open_slice1 ht hC hf with ⟨hcs, _⟩ | ⟨a, len, cap, m, k, V, D, Pl, hcs, hb, hl, hm, hmm, hx, hi⟩
  · simp [Value.cells] at hcs
    obtain ⟨rfl, rfl, rfl⟩ := hcs
    exact ⟨none, [], 0, rfl, Rd.nil W, Nat.le_refl _, by unfold maxLen; omega, by simp⟩
  · simp [Value.cells] at hcs
    obtain ⟨rfl, rfl, rfl⟩ := hcs
    have hlm : n ≤ m := by rw [hmm]; split <;> omega
    obtain ⟨g, hg⟩ := choose_lt (n := n) (p := fun i a => V i = f a ∧ ok a) (fun i hin => hel k (V i) _ (hi i (by omega)).2)
    refine ⟨some a, (List.range n).map g, c, by simp, ⟨some a, c, by simp, fun _ => ⟨a, rfl, fun j u hu => ?_⟩⟩, by simpa using hl, hm, ?_⟩
    · have hj : j < n := by
        have := (List.getElem?_eq_some_iff.1 hu).1
        simpa using this
      have e : (((List.range n).map g).map f)[j]? = some (f (g j)) := by simp [hj]
      rw [e] at hu
      injection hu with hu
      subst hu
      rw [(hi j (by omega)).1, (hg j hj).1]
    · intro x hx
      obtain ⟨i, hir, rfl⟩ := List.mem_map.1 hx
      exact (hg i (List.mem_range.1 hir)).2

theorem rd_bools {t e : TypeId} {v : Value} {d : DataW H} {p : List MemPlace} (ht : P.underlying t = some (.slice e)) (he : P.underlying e = some .bool) (hC : P.cellsOf e = 1)
    (hv : ∃ A n c, v = .slice A n c) (h : DataW.Trod enc P W base spare held t v d p) : ∃ (A : Option Addr) (l : List Bool) (c : Nat), v = .slice A l.length c ∧ Rd W v (l.map Value.bool) ∧ l.length ≤ c ∧ c ≤ maxLen ∧ ∀ a ∈ l, True :=
  rd_slice1 Value.bool (fun _ => True) ht hC (fun fuel u y hy => by
    obtain ⟨b, hb, _⟩ := DataW.trod_bool he hy
    exact ⟨b, by simpa using hb, trivial⟩) hv h
theorem rd_ints {k : IntKind} {t e : TypeId} {v : Value} {d : DataW H} {p : List MemPlace} (ht : P.underlying t = some (.slice e)) (he : P.underlying e = some (.int k)) (hC : P.cellsOf e = 1)
    (hv : ∃ A n c, v = .slice A n c) (h : DataW.Trod enc P W base spare held t v d p) : ∃ (A : Option Addr) (l : List Int) (c : Nat), v = .slice A l.length c ∧ Rd W v (l.map (Value.int k)) ∧ l.length ≤ c ∧ c ≤ maxLen ∧ ∀ a ∈ l, (Lit.int k a).wf = true :=
  rd_slice1 (Value.int k) (fun a => (Lit.int k a).wf = true) ht hC (fun fuel u y hy => by
    obtain ⟨n, hn, _, hw⟩ := DataW.trod_int he hy
    exact ⟨n, by simpa using hn, hw⟩) hv h
end
end Go.Proofs.Ytedcficjmogohaa

/- The steps that a law of package coder is asked for, as its walk wants them. -/
namespace Go.Proofs.Ytedcficjmogohaa
set_option linter.unusedVariables false
set_option linter.unusedSimpArgs false
set_option maxRecDepth 100000
open Go.RowKit Go.Deep Go.ChangeShapes Go.WideShapes

/-- A step's four numbers. -/
structure Dn where
  verb : Int
  k : Int
  n : Int
  bits : Int
instance : Inhabited Dn := ⟨⟨0, 0, 0, 0⟩⟩
def Dn.cell (d : Dn) : Nat → Int
  | 0 => d.verb
  | 1 => d.k
  | 2 => d.n
  | _ => d.bits
def Dn.ok (d : Dn) : Prop := ∀ j, -9223372036854775808 ≤ d.cell j ∧ d.cell j ≤ 9223372036854775807

/-- A slice of steps, as it lies. -/
def RdDo (W : World) (v : Value) (l : List Dn) : Prop := ∃ (A : Option Addr) (c : Nat), v = .slice A l.length c ∧ ∀ i d, l[i]? = some d → ∃ b off, A = some ⟨b, off, none⟩ ∧ ∀ j, j < 4 → W.cell? ⟨b, off + (i * 4 + j), none⟩ = some (.int .i64 (d.cell j))

theorem RdDo.at_ {w : World} {A : Option Addr} {n c : Nat} {l : List Dn} (h : RdDo w (.slice A n c) l) : l.length = n ∧ ∀ i, i < n → ∃ b off d, A = some ⟨b, off, none⟩ ∧ l[i]? = some d ∧ ∀ j, j < 4 → w.cell? ⟨b, off + (i * 4 + j), none⟩ = some (.int .i64 (d.cell j)) := by
  obtain ⟨A', c', hv, hr⟩ := h
  injection hv with h1 h2 h3
  subst h1; subst h2; subst h3
  refine ⟨rfl, fun i hi => ?_⟩
  obtain ⟨b, off, ha, hc⟩ := hr i _ (List.getElem?_eq_getElem hi)
  exact ⟨b, off, _, ha, List.getElem?_eq_getElem hi, hc⟩

section
variable {H : Type} {enc : TypeId × Value → H} {P : Program} {w : World} {base : Nat} {spare : Nat → Bool} {held : Bool}
theorem open_slice_fields {t e : TypeId} {fs : Array Field} {fuel : Nat} {cs : List Value} {x : DataW H × List MemPlace} (ht : P.underlying t = some (.slice e)) (he : P.underlying e = some (.struct fs))
    (hone : oneCellFields P fs = true) (hC : P.cellsOf e = fs.size) (h : DataW.trod enc P w base spare held fuel t cs = some x) :
    (cs = [.slice none 0 0] ∧ x = (.nil, [])) ∨
    ∃ (a : Addr) (len cap m : Nat), cs = [.slice (some a) len cap] ∧ base ≤ a.block ∧ len ≤ cap ∧ cap ≤ maxLen ∧ m = (if spare a.block then cap else len) ∧
      ∀ i, i < m → ∃ n : Nat, ∀ (j : Nat) (f : Field), fs[j]? = some f → ∃ (v : Value) (y : DataW H × List MemPlace), w.cell? (a.add (i * fs.size + j)) = some v ∧ DataW.trod enc P w base spare held n f.type [v] = some y := by
  rcases open_slice ht h with h0 | ⟨a, len, cap, m, n, D, Pl, hcs, hb, hl, hm, hmm, hx, hi⟩
  · exact .inl h0
  · refine .inr ⟨a, len, cap, m, hcs, hb, hl, hm, hmm, fun i him => ?_⟩
    obtain ⟨cs', hc, ht'⟩ := hi i him
    rw [hC] at hc
    obtain ⟨ys, n', hn', hy, hlen, hyl, hf⟩ := DataW.trod_struct he ht'
    obtain ⟨_, hcl, hat⟩ := World.cells?_some hc
    refine ⟨n', fun j f hj => ?_⟩
    obtain ⟨ho, hk⟩ := hone_of hone j f hj
    have hjl : j < fs.size := (Array.getElem?_eq_some_iff.1 hj).1
    have hcell := hat j hjl
    have hv : cs'[j]? = some (cs'[j]'(by omega)) := List.getElem?_eq_getElem (by omega)
    have h1 := hf j f hj
    rw [ho, hk] at h1
    have hone' : (cs'.drop j).take 1 = [cs'[j]'(by omega)] := by
      rw [List.drop_eq_getElem_cons (by omega)]
      rfl
    rw [hone'] at h1
    have hys : ys[j]? = some (ys[j]'(by omega)) := List.getElem?_eq_getElem (by omega)
    refine ⟨_, _, ?_, h1.trans hys⟩
    rw [← Go.Deep.add_add, hcell, hv]

/-- A slice of steps that came in. -/
theorem rd_dos {t e ti : TypeId} {f0 f1 f2 f3 : Field} {v : Value} {d : DataW H} {p : List MemPlace} (ht : P.underlying t = some (.slice e)) (he : P.underlying e = some (.struct #[f0, f1, f2, f3])) (hone : oneCellFields P #[f0, f1, f2, f3] = true) (hC : P.cellsOf e = 4)
    (hti : P.underlying ti = some (.int .i64)) (h0 : f0.type = ti) (h1 : f1.type = ti) (h2 : f2.type = ti) (h3 : f3.type = ti)
    (hv : ∃ A n c, v = .slice A n c) (h : DataW.Trod enc P w base spare held t v d p) : ∃ (A : Option Addr) (l : List Dn) (c : Nat), v = .slice A l.length c ∧ RdDo w v l ∧ l.length ≤ c ∧ c ≤ maxLen ∧ ∀ a ∈ l, a.ok := by
  obtain ⟨A, n, c, rfl⟩ := hv
  obtain ⟨fuel, hf⟩ := h
  rcases open_slice_fields ht he hone hC hf with ⟨hcs, _⟩ | ⟨a, len, cap, m, hcs, hb, hl, hm, hmm, hi⟩
  · simp [Value.cells] at hcs
    obtain ⟨rfl, rfl, rfl⟩ := hcs
    exact ⟨none, [], 0, rfl, ⟨none, 0, rfl, by simp⟩, Nat.le_refl _, by unfold maxLen; omega, by simp⟩
  · simp [Value.cells] at hcs
    obtain ⟨rfl, rfl, rfl⟩ := hcs
    have hlm : n ≤ m := by rw [hmm]; split <;> omega
    have hel : ∀ i, i < n → ∃ q : Dn, (∀ j, j < 4 → w.cell? (a.add (i * 4 + j)) = some (.int .i64 (q.cell j))) ∧ q.ok := by
      intro i hin
      obtain ⟨n', hfs⟩ := hi i (by omega)
      have g : ∀ (j : Nat) (f : Field), (#[f0, f1, f2, f3] : Array Field)[j]? = some f → f.type = ti → ∃ z : Int, w.cell? (a.add (i * 4 + j)) = some (.int .i64 z) ∧ (-9223372036854775808 ≤ z ∧ z ≤ 9223372036854775807) := by
        intro j f hj hft
        obtain ⟨u, y, hc, hy⟩ := hfs j f hj
        obtain ⟨z, hz, _, hw⟩ := DataW.trod_int (k := .i64) (by rw [hft]; exact hti) hy
        simp at hz
        subst hz
        exact ⟨z, hc, by have := hw; simp [Lit.wf, IntKind.min, IntKind.max, IntKind.signed, IntKind.bits] at this; omega⟩
      obtain ⟨z0, c0, w0⟩ := g 0 f0 rfl h0
      obtain ⟨z1, c1, w1⟩ := g 1 f1 rfl h1
      obtain ⟨z2, c2, w2⟩ := g 2 f2 rfl h2
      obtain ⟨z3, c3, w3⟩ := g 3 f3 rfl h3
      refine ⟨⟨z0, z1, z2, z3⟩, fun j hj => ?_, fun j => ?_⟩
      · match j, hj with
        | 0, _ => exact c0
        | 1, _ => exact c1
        | 2, _ => exact c2
        | 3, _ => exact c3
      · match j with
        | 0 => exact w0
        | 1 => exact w1
        | 2 => exact w2
        | j + 3 => exact w3
    by_cases hn : n = 0
    · subst hn
      exact ⟨some a, [], c, rfl, ⟨some a, c, rfl, by simp⟩, Nat.zero_le _, hm, by simp⟩
    have hsp : a.spot = none := by
      obtain ⟨q, hq, _⟩ := hel 0 (by omega)
      have := World.cell?_spot (hq 0 (by omega))
      simpa [Addr.add] using this
    obtain ⟨b, off, spot⟩ := a
    simp only at hsp
    subst hsp
    obtain ⟨g, hg⟩ := choose_lt (n := n) (α := Dn) (p := fun i q => (∀ j, j < 4 → w.cell? ((⟨b, off, none⟩ : Addr).add (i * 4 + j)) = some (.int .i64 (q.cell j))) ∧ q.ok) hel
    refine ⟨some ⟨b, off, none⟩, (List.range n).map g, c, by simp, ⟨some ⟨b, off, none⟩, c, by simp, fun i d hd => ⟨b, off, rfl, fun j hj => ?_⟩⟩, by simpa using hl, hm, ?_⟩
    · have hin : i < n := by
        have := (List.getElem?_eq_some_iff.1 hd).1
        simpa using this
      have e : ((List.range n).map g)[i]? = some (g i) := by simp [hin]
      rw [e] at hd
      injection hd with hd
      subst hd
      have := (hg i hin).1 j hj
      rwa [Addr.add_lit] at this
    · intro x hx
      obtain ⟨i, hir, rfl⟩ := List.mem_map.1 hx
      exact (hg i (List.mem_range.1 hir)).2
end
end Go.Proofs.Ytedcficjmogohaa
