/- Package entry: the walks over Total, Find and Within. -/
import Derived.Test.YtfppancidgamjaaDoorE6
namespace Go.Proofs.YtfppancidgamjaaDoor
set_option linter.unusedVariables false
set_option linter.unusedSimpArgs false
open Go.RowKit

theorem fineB_true {l : List En} (h : fineB l = true) : whyE l = 0 ∧ ∀ i (hi : i < l.length), l[i].beg = sumS (l.take i) := by
  unfold fineB at h
  rw [Bool.and_eq_true, beq_iff_eq, begB_index] at h
  exact ⟨h.1, fun i hi => by have := h.2 i hi; rw [Int.zero_add] at this; exact this⟩
theorem fine_bounds {l : List En} (h : fineB l = true) (i : Nat) (hi : i < l.length) : 0 ≤ l[i].beg ∧ l[i].beg ≤ 1073741824 ∧ 0 ≤ l[i].size ∧ l[i].size ≤ 1048576 := by
  obtain ⟨h1, h2⟩ := fineB_true h
  obtain ⟨_, hl, _, hp⟩ := whyE_zero h1
  have hs := sumS_range (l := l.take i) (fun e he => hp e (List.mem_of_mem_take he))
  have hlt : (l.take i).length ≤ 1024 := by rw [List.length_take]; omega
  obtain ⟨_, _, _, _, h5, h6, _⟩ := hp _ (List.getElem_mem hi)
  rw [h2 i hi]
  exact ⟨hs.1, by omega, h5, h6⟩
def totalE (l : List En) : Int := if fineB l then sumS l else 0
theorem totalE_last {l : List En} {m : Nat} (h : fineB l = true) (hm : l.length = m + 1) : totalE l = (l[m]'(by omega)).beg + (l[m]'(by omega)).size := by
  unfold totalE
  rw [if_pos h, (fineB_true h).2 m (by omega), ← sumS_snoc, ← List.take_succ_eq_append_getElem (by omega), ← hm, List.take_length]

set_option maxHeartbeats 1600000 in
theorem total_any (A : Option Addr) (c : Nat) (l : List En) (hl : l.length ≤ 4294967296) (ok : ∀ e ∈ l, e.ok) (hx : ∀ e ∈ l, e.path.length ≤ 4294967280) (w : World) (h : Sh w) (hr : RdA 7 enL w A l) :
    Calls Tryd.prog 24 #[.slice A l.length c] w fun e w' => e = .returned (.int .i64 (totalE l)) ∧ Below w.heap.size w w' := by
  have F := Lib.hid (fine_any A c l hl ok hx w h hr)
  have Hr := Lib.hid (fun w1 (b : Below w.heap.size w w1) => hr.below b)
  have n1 : (l.length : Int) ≤ 4294967296 := by omega
  cases hf : fineB l with
  | false =>
    rw [hf] at F
    have Ht : Hid (totalE l = 0) := Lib.hid (by unfold totalE; rw [hf]; rfl)
    clear hf h hr
    by_cases h0 : l.length = 0
    · have h0' : ((l.length : Int) == 0) = true := by rw [h0]; rfl
      have h0n : (l.length == 0) = true := by simpa using h0
      clear h0
      go_enter Tryd.func24, Tryd.ntmps24
      go_wp2
      go_ret
      exact ⟨by rw [Ht.out]; rfl, Below.refl _ _⟩
    · have h0' : ((l.length : Int) == 0) = false := by rw [beq_eq_false_iff_ne]; omega
      have h0n : (l.length == 0) = false := by simpa using h0
      go_enter Tryd.func24, Tryd.ntmps24
      go_wp2_with fail
      refine F.out.mono ?_
      rintro e w1 ⟨rfl, b1⟩
      go_wp2
      go_ret
      exact ⟨by rw [Ht.out]; rfl, b1⟩
  | true =>
    rw [hf] at F
    by_cases h0 : l.length = 0
    · have h0' : ((l.length : Int) == 0) = true := by rw [h0]; rfl
      have h0n : (l.length == 0) = true := by simpa using h0
      have Ht : Hid (totalE l = 0) := Lib.hid (by
        unfold totalE; rw [hf]
        obtain rfl := List.eq_nil_of_length_eq_zero h0
        rfl)
      clear h0 hf h hr
      go_enter Tryd.func24, Tryd.ntmps24
      go_wp2
      go_ret
      exact ⟨by rw [Ht.out]; rfl, Below.refl _ _⟩
    · obtain ⟨m, hm⟩ : ∃ m, l.length = m + 1 := ⟨l.length - 1, by omega⟩
      have Ht := Lib.hid (totalE_last hf hm)
      have hbd := fine_bounds hf m (by omega)
      have h0' : ((m : Int) + 1 == 0) = false := by simp; omega
      have hm0 : (0 : Int) ≤ (m : Int) := by omega
      have hm1 : (m : Int) < (m : Int) + 1 := by omega
      have hm2 : (m : Int) ≤ 4294967296 := by omega
      have Hr2 := Lib.hid (fun w1 b => Hr.out w1 b m (by omega))
      rw [hm] at F n1 ⊢
      clear hf h hr h0 Hr
      generalize l[m] = x at *
      clear hm
      obtain ⟨path, kind, mode, time, tgt, beg, size⟩ := x
      simp only at hbd Ht
      obtain ⟨z1, z2, z3, z4⟩ := hbd
      go_enter Tryd.func24, Tryd.ntmps24
      go_wp2_with fail
      refine F.out.mono ?_
      rintro e w1 ⟨rfl, b1⟩
      obtain ⟨b, off, rfl, q, d⟩ := Hr2.out w1 b1
      obtain ⟨d0, d1, d2, d3, d4, d5, d6⟩ := RdA.cells7 d
      simp only at d0 d1 d2 d3 d4 d5 d6
      clear d Hr2
      have hb1 := b1.alloc b1.size (.cells #[.string (str path), .int .i64 kind, .int .i64 mode, .int .i64 time, .string (str tgt), .int .i64 beg, .int .i64 size] 30)
      go_wp2
      go_ret
      exact ⟨by rw [Ht.out]; rfl, hb1⟩

def findE (l : List En) (p : List UInt8) : Option En := l.find? (fun e => decide (e.path = p))
def FindP (w : World) (r : Option En) (e : Ending) (w' : World) : Prop := e = .returned (.tuple #[.agg (enL (r.getD default)).toArray, .bool r.isSome]) ∧ Below w.heap.size w w'

set_option maxHeartbeats 1600000 in
theorem find_any (A : Option Addr) (c : Nat) (l : List En) (hl : l.length ≤ 4294967296) (p : ByteArray) (w : World) (hr : RdA 7 enL w A l) :
    Calls Tryd.prog 20 #[.slice A l.length c, .string p] w (FindP w (findE l p.data.toList)) := by
  have hb := Below.refl w.heap.size w
  have o0 := (Own.start w.heap.size w).new (Nat.le_refl _) 30 #[.string ByteArray.empty, .int .i64 0, .int .i64 0, .int .i64 0, .string ByteArray.empty, .int .i64 0, .int .i64 0]
  have hb0 := hb.alloc (Nat.le_refl _) (.cells #[.string ByteArray.empty, .int .i64 0, .int .i64 0, .int .i64 0, .string ByteArray.empty, .int .i64 0, .int .i64 0] 30)
  have Hr := Lib.hid (fun w1 (b : Below w.heap.size w w1) => hr.below b)
  have n1 : (l.length : Int) ≤ 4294967296 := by omega
  clear hr hb
  go_enter Tryd.func20, Tryd.ntmps20
  go_wp2
  go_loopg [10] l.length (fun k v wr => ∃ i : Nat, k + i = l.length ∧ v = .int .i64 i ∧ Below w.heap.size w wr ∧ Own w.heap.size (Bk w.heap.size 30 #[.string ByteArray.empty, .int .i64 0, .int .i64 0, .int .i64 0, .string ByteArray.empty, .int .i64 0, .int .i64 0] * Emp) wr ∧ Hid (findE l p.data.toList = findE (l.drop i) p.data.toList))
  case atStart => exact ⟨0, by omega, rfl, hb0, o0, Lib.hid rfl⟩
  case round =>
    clear hb0 o0
    obtain ⟨i, hk, rfl, hb, ho, hf⟩ := hrel
    by_cases hlt : (i : Int) < (l.length : Int)
    · obtain ⟨j, rfl⟩ : ∃ j, gk = j + 1 := ⟨gk - 1, by omega⟩
      have hil : i < l.length := by omega
      have i0' : (0 : Int) ≤ (i : Int) := by omega
      obtain ⟨b, off, rfl, q, d⟩ := Hr.out _ hb i hil
      have Hk := Lib.hid hk
      have hf2 := hf.out
      rw [List.drop_eq_getElem_cons hil] at hf2
      unfold findE at hf2
      rw [List.find?_cons] at hf2
      have Hf2 := Lib.hid hf2
      clear hk hf hf2
      generalize l[i] = x at *
      obtain ⟨path, kind, mode, time, tgt, beg, size⟩ := x
      obtain ⟨d0, d1, d2, d3, d4, d5, d6⟩ := RdA.cells7 d
      simp only at d0 d1 d2 d3 d4 d5 d6 Hf2
      clear d
      have o1 := ho.alloc_keep hb.size (.cells #[.string (str path), .int .i64 kind, .int .i64 mode, .int .i64 time, .string (str tgt), .int .i64 beg, .int .i64 size] 30)
      have hb1 := hb.alloc hb.size (.cells #[.string (str path), .int .i64 kind, .int .i64 mode, .int .i64 time, .string (str tgt), .int .i64 beg, .int .i64 size] 30)
      by_cases hp : path = p.data.toList
      · have hp1 : (str path).toList = p.toList := by rw [ByteArray.toList_eq, ByteArray.toList_eq]; exact hp
        have hp2 : ((str path).toList == p.toList) = true := by rw [hp1]; simp
        have Hr3 : Hid (findE l p.data.toList = some ⟨path, kind, mode, time, tgt, beg, size⟩) := Lib.hid (by unfold findE; rw [Hf2.out, hp]; simp)
        clear Hf2
        subst hp
        have c0 : wr.cell? ⟨w.heap.size, 0, none⟩ = some (.string ByteArray.empty) := ho.cell 0
        have c1 : wr.cell? ⟨w.heap.size, 1, none⟩ = some (.int .i64 0) := ho.cell 1
        have c2 : wr.cell? ⟨w.heap.size, 2, none⟩ = some (.int .i64 0) := ho.cell 2
        have c3 : wr.cell? ⟨w.heap.size, 3, none⟩ = some (.int .i64 0) := ho.cell 3
        have c4 : wr.cell? ⟨w.heap.size, 4, none⟩ = some (.string ByteArray.empty) := ho.cell 4
        have c5 : wr.cell? ⟨w.heap.size, 5, none⟩ = some (.int .i64 0) := ho.cell 5
        have c6 : wr.cell? ⟨w.heap.size, 6, none⟩ = some (.int .i64 0) := ho.cell 6
        have f0 := ho.unfrozen 0
        have f1 := ho.unfrozen 1
        have f2 := ho.unfrozen 2
        have f3 := ho.unfrozen 3
        have f4 := ho.unfrozen 4
        have f5 := ho.unfrozen 5
        have f6 := ho.unfrozen 6
        have hlt2 : w.heap.size < wr.heap.size := by have := ho.bk; omega
        have hne : ¬ wr.heap.size = w.heap.size := by have := ho.bk; omega
        have hne2 : ¬ w.heap.size = wr.heap.size := by have := ho.bk; omega
        have s6 := ho.set7 hb.size (.string (str p.data.toList)) (.int .i64 kind) (.int .i64 mode) (.int .i64 time) (.string (str tgt)) (.int .i64 beg) (.int .i64 size)
        have hb2 := hb.trans s6.2
        have o7 := s6.1.alloc_keep hb2.size (.cells #[.string (str p.data.toList), .int .i64 kind, .int .i64 mode, .int .i64 time, .string (str tgt), .int .i64 beg, .int .i64 size] 30)
        have hb3 := hb2.alloc hb2.size (.cells #[.string (str p.data.toList), .int .i64 kind, .int .i64 mode, .int .i64 time, .string (str tgt), .int .i64 beg, .int .i64 size] 30)
        have S7 := Lib.hid o7
        have HB := Lib.hid hb3
        clear s6 hb2 o1 hb1 o7 hb3
        go_wp2
        refine bodyPost_ret (results_cell_tmp rfl _ _ w.heap.size 30 _ (0, 0) _ rfl S7.out.bk.1 Tryd.underlying30 rfl (by kernel_rfl)) rfl ?_
        rw [Hr3.out]
        exact ⟨rfl, HB.out⟩
      · have hp1 : ¬ (str path).toList = p.toList := by rw [ByteArray.toList_eq, ByteArray.toList_eq]; exact hp
        have hp2 : ((str path).toList == p.toList) = false := by simpa using hp1
        have Hr3 : Hid (findE l p.data.toList = findE (l.drop (i + 1)) p.data.toList) := Lib.hid (by unfold findE; rw [Hf2.out]; simp [hp])
        clear Hf2 hp
        go_wp2
        go_roundg j
        case measure => omega
        case rel => exact ⟨i + 1, by have := Hk.out; omega, rfl, hb1, o1, Hr3⟩
    · have Hr3 : Hid (findE l p.data.toList = none) := Lib.hid (by rw [hf.out, List.drop_eq_nil_of_le (by omega)]; rfl)
      have s6 := ho.set7 hb.size (.string ByteArray.empty) (.int .i64 0) (.int .i64 0) (.int .i64 0) (.string ByteArray.empty) (.int .i64 0) (.int .i64 0)
      have c0 : wr.cell? ⟨w.heap.size, 0, none⟩ = some (.string ByteArray.empty) := ho.cell 0
      have c1 : wr.cell? ⟨w.heap.size, 1, none⟩ = some (.int .i64 0) := ho.cell 1
      have c2 : wr.cell? ⟨w.heap.size, 2, none⟩ = some (.int .i64 0) := ho.cell 2
      have c3 : wr.cell? ⟨w.heap.size, 3, none⟩ = some (.int .i64 0) := ho.cell 3
      have c4 : wr.cell? ⟨w.heap.size, 4, none⟩ = some (.string ByteArray.empty) := ho.cell 4
      have c5 : wr.cell? ⟨w.heap.size, 5, none⟩ = some (.int .i64 0) := ho.cell 5
      have c6 : wr.cell? ⟨w.heap.size, 6, none⟩ = some (.int .i64 0) := ho.cell 6
      have f0 := ho.unfrozen 0
      have f1 := ho.unfrozen 1
      have f2 := ho.unfrozen 2
      have f3 := ho.unfrozen 3
      have f4 := ho.unfrozen 4
      have f5 := ho.unfrozen 5
      have f6 := ho.unfrozen 6
      have hb2 := hb.trans s6.2
      have S7 := Lib.hid s6.1
      have HB := Lib.hid hb2
      clear s6 hb2 hk hf
      go_wp2
      refine bodyPost_ret (results_cell_tmp rfl _ _ w.heap.size 30 _ (0, 0) _ rfl S7.out.bk.1 Tryd.underlying30 rfl (by kernel_rfl)) rfl ?_
      rw [Hr3.out]
      exact ⟨rfl, HB.out⟩

def withinE (l : List En) (n : Int) : List En := if fineB l then l.takeWhile (fun e => decide (e.beg + e.size ≤ n)) else []
theorem takeWhile_take {α : Type} (q : α → Bool) : ∀ (l : List α) (i : Nat), (∀ x ∈ l.take i, q x = true) → l.takeWhile q = l.take i ++ (l.drop i).takeWhile q
  | l, 0, _ => by simp
  | [], i + 1, _ => by simp
  | a :: l, i + 1, h => by
    have h1 : q a = true := h a (by simp)
    rw [List.takeWhile_cons, if_pos h1, takeWhile_take q l i (fun x hx => h x (by simp [hx]))]
    simp

set_option maxRecDepth 100000 in
set_option maxHeartbeats 3200000 in
theorem within_any (A : Option Addr) (c : Nat) (l : List En) (hl : l.length ≤ 4294967296) (ok : ∀ e ∈ l, e.ok) (hx : ∀ e ∈ l, e.path.length ≤ 4294967280) (n : Int) (w : World) (h : Sh w) (hr : RdA 7 enL w A l) :
    Calls Tryd.prog 23 #[.slice A l.length c, .int .i64 n] w (RetA 7 enL w (withinE l n)) := by
  obtain ⟨i0, hi, hz0, hz1, hz2⟩ := info_parts infoEn
  have Hi0 := Lib.hid (And.intro hi (And.intro hz0 (And.intro hz1 hz2)))
  have F := Lib.hid (fine_any A c l hl ok hx w h hr)
  have Hr := Lib.hid (fun w1 (b : Below w.heap.size w w1) => hr.below b)
  have n1 : (l.length : Int) ≤ 4294967296 := by omega
  clear hr hi hz0 hz1 hz2 h
  cases hf : fineB l with
  | false =>
    rw [hf] at F
    have Hw : Hid (withinE l n = []) := Lib.hid (by unfold withinE; rw [hf]; rfl)
    clear hf
    go_enter Tryd.func23, Tryd.ntmps23
    go_wp2_with fail
    refine F.out.mono ?_
    rintro e w1 ⟨rfl, b1⟩
    go_wp2
    go_ret
    rw [Hw.out]
    exact RetA.mk rfl rfl cap0 RdA.nil b1
  | true =>
    rw [hf] at F
    have Hw : Hid (withinE l n = l.takeWhile (fun e => decide (e.beg + e.size ≤ n))) := Lib.hid (by unfold withinE; rw [hf]; rfl)
    have Hb := Lib.hid (fun i hi => fine_bounds hf i hi)
    clear hf
    go_enter Tryd.func23, Tryd.ntmps23
    go_wp2_with fail
    refine F.out.mono ?_
    rintro e w1 ⟨rfl, b1⟩
    have hO := ((Own.start w.heap.size w1).rw_nil 30 7)
    go_wp2
    go_loopg [5, 13] l.length (fun k v u wr => ∃ (i : Nat) (A' : Option Addr) (c' : Nat), k + i = l.length ∧ u = .int .i64 i ∧ v = .slice A' i c' ∧ Below w.heap.size w wr ∧ Own w.heap.size (Rw 30 7 (.slice A' i c') i (flat enL (l.take i)) * Emp) wr ∧ Hid (∀ x ∈ l.take i, decide (x.beg + x.size ≤ n) = true))
    case atStart => exact ⟨0, none, 0, by omega, rfl, rfl, b1, hO, Lib.hid (by simp)⟩
    case round =>
      clear b1 hO
      obtain ⟨i, A', c', hk, rfl, rfl, hb, ho, hq⟩ := hrel
      by_cases hlt : (i : Int) < (l.length : Int)
      · obtain ⟨j, rfl⟩ : ∃ j, gk = j + 1 := ⟨gk - 1, by omega⟩
        have hil : i < l.length := by omega
        have i0' : (0 : Int) ≤ (i : Int) := by omega
        obtain ⟨b, off, rfl, q, d⟩ := Hr.out _ hb i hil
        have hbd := Hb.out i hil
        have Hk := Lib.hid hk
        have Hsn := Lib.hid (List.take_succ_eq_append_getElem hil)
        have Hcut : Hid (¬ l[i].beg + l[i].size ≤ n → withinE l n = l.take i) := Lib.hid (fun h => by
          rw [Hw.out, takeWhile_take _ l i hq.out, List.drop_eq_getElem_cons hil, List.takeWhile_cons, if_neg (by simpa using h), List.append_nil])
        have Hq2 : Hid (l[i].beg + l[i].size ≤ n → ∀ x ∈ l.take (i + 1), decide (x.beg + x.size ≤ n) = true) := Lib.hid (fun h x hx => by
          rw [Hsn.out] at hx
          rcases List.mem_append.1 hx with hx | hx
          · exact hq.out x hx
          · rw [List.mem_singleton.1 hx]; exact decide_eq_true h)
        have hlen : (l.take i).length = i := by rw [List.length_take]; omega
        have Hlen := Lib.hid hlen
        clear hk hq hlen
        generalize l[i] = x at *
        obtain ⟨path, kind, mode, time, tgt, beg, size⟩ := x
        obtain ⟨d0, d1, d2, d3, d4, d5, d6⟩ := RdA.cells7 d
        simp only at d0 d1 d2 d3 d4 d5 d6 hbd Hcut Hq2
        obtain ⟨z1, z2, z3, z4⟩ := hbd
        clear d
        have o1 := (ho.new hb.size 30 #[.string (str path), .int .i64 kind, .int .i64 mode, .int .i64 time, .string (str tgt), .int .i64 beg, .int .i64 size]).cast (sep_left_comm _ _ _)
        have hb1 := hb.alloc hb.size (.cells #[.string (str path), .int .i64 kind, .int .i64 mode, .int .i64 time, .string (str tgt), .int .i64 beg, .int .i64 size] 30)
        by_cases hgt : n < beg + size
        · have hd := Lib.hid (Hcut.out (by omega))
          clear Hcut Hq2 ho hb
          have o4 := (o1.cast (sep_left_comm _ _ _)).drop
          go_wp2
          go_ret
          rw [hd.out]
          exact RetA.mk rfl Hlen.out.symm o4.cap (o4.rdA enL_len Hlen.out.symm) hb1
        · have Hq3 := Lib.hid (Hq2.out (by omega))
          have hle : beg + size ≤ n := by omega
          obtain ⟨g2, cap2, w2, hrun, o2, b2⟩ := row_append (P := Tryd.prog) hb1.size Tryd.underlying25 Hi0.out.1 Hi0.out.2.1 Hi0.out.2.2.1 Hi0.out.2.2.2 rfl (by omega) o1 #[.string (str path), .int .i64 kind, .int .i64 mode, .int .i64 time, .string (str tgt), .int .i64 beg, .int .i64 size] rfl
            (by intro u hu; simp at hu; rcases hu with rfl | rfl | rfl | rfl | rfl | rfl | rfl <;> rfl) (by omega) (by omega)
          rw [World.size_alloc] at hrun
          have Hrun := Lib.hid hrun
          have hb2 := hb1.trans b2
          have o3 := (o2.cast (sep_left_comm _ _ _)).drop
          clear hrun o1 hb1 hb ho b2 o2 Hcut Hq2
          go_wp2_with (at_builtin; refine wpList_append_at rfl (.tmp 25) (.tmp 27) 25 rfl rfl rfl Hrun.out ?_)
          go_roundg j
          case measure => omega
          case rel => exact ⟨i + 1, some ⟨g2, 0, none⟩, cap2, by have := Hk.out; omega, rfl, rfl, hb2, by rw [Hsn.out, flat_snoc]; exact o3, Hq3⟩
      · obtain rfl : i = l.length := by omega
        have hd : withinE l n = l := by
          have := takeWhile_take _ l l.length hq.out
          rw [Hw.out, this]; simp
        have Hd := Lib.hid hd
        rw [List.take_length] at ho
        clear hd hq
        go_wp2
        go_ret
        rw [Hd.out]
        exact RetA.mk rfl rfl ho.cap (ho.rdA enL_len rfl) hb
end Go.Proofs.YtfppancidgamjaaDoor
